/-
  Least costs from the start on, by relaxing (no program in sight).
-/
import Derived.Test.YtamljcdnphjgaaaPk
import Derived.Test.YtamljcdnphjgaaaPr
import Derived.Test.YtamljcdnphjgaaaPq
import Derived.Test.YtamljcdnphjgaaaPu
set_option linter.all false
set_option linter.deprecated false
set_option linter.unusedSimpArgs false
set_option linter.unusedVariables false
namespace Go.Gx.A
set_option linter.all false
abbrev Rch:=St→Option Cost
abbrev Bnd:=Int × Int × Int × Int
def mnO : Option Cost→Cost→Cost
 | none,d=>d
 | some w,d=>if clt d w=true then d else w
def rx (R : Rch) (to : St) (d : Cost) : Rch:=fun x=>if x=to then some (mnO (R to) d) else R x
theorem rx_ne {R : Rch} {to x : St} {d : Cost} (h : x ≠ to) : rx R to d x=R x:=if_neg h
theorem rx_self {R : Rch} {to : St} {d : Cost} : rx R to d to=some (mnO (R to) d):=if_pos rfl
theorem rx_set {R : Rch} {to : St} {d : Cost} (h : R to=none ∨ ∃ w,R to=some w∧clt d w=true) : rx R to d=fun x=>if x=to then some d else R x:=by
 funext x
 unfold rx
 split
 ·rcases h with h | ⟨w,h,hw⟩
  ·rw [h]; rfl
  ·rw [h]; simp only [mnO,hw,if_true]
 ·rfl
theorem rx_keep {R : Rch} {to : St} {d w : Cost} (h : R to=some w) (hw : clt d w=false) : rx R to d=R:=by
 funext x
 unfold rx
 split
 ·rename_i e
  rw [e,h]; simp [mnO,hw]
 ·rfl
def rlx (R : Rch) (a : Cost) (l : List Sp) : Rch:=l.foldl (fun R x=>rx R x.2.1 (cadd a x.2.2)) R
theorem rlx_append (R : Rch) (a : Cost) (l m : List Sp) : rlx R a (l ++ m)=rlx (rlx R a l) a m:=List.foldl_append ..
theorem rlx_low : ∀ (l : List Sp) {R : Rch} {a : Cost} {y : St},(∀ x ∈ l,x.2.1 ≠ y)→rlx R a l y=R y
 | [],_,_,_,_=>rfl
 | x :: l,R,a,y,h=>by
  show rlx (rx R x.2.1 (cadd a x.2.2)) a l y=R y
  rw [rlx_low l fun z hz=>h z (List.mem_cons_of_mem _ hz),rx_ne (Ne.symm (h x (List.mem_cons_self ..)))]
theorem or_gt {s i : Nat} (h : s.testBit i=false) : s < s ||| 2 ^ i:=by
 have h1 : s ≤ s ||| 2 ^ i:=Nat.left_le_or
 rcases Nat.lt_or_eq_of_le h1 with h2 | h2
 ·exact h2
 ·exfalso
  have : (s ||| 2 ^ i).testBit i=true:=by rw [Nat.testBit_or,Nat.testBit_two_pow_self,Bool.or_true]
  rw [← h2,h] at this
  cases this
theorem IsStep.gt {T : Tk} {s : St} {i : Nat} {to : St} {c : Cost} (h : IsStep T s i to c) : s.1 < to.1:=by rw [h.set]; exact or_gt h.bit
theorem steps_low {T : Tk} {s y : St} (h : y.1 ≤ s.1) : ∀ x ∈ T.steps s,x.2.1 ≠ y:=fun x hx e=>by
 have:=((mem_steps (i:=x.1) (to:=x.2.1) (c:=x.2.2)).1 hx).gt
 rw [e] at this
 omega
def prS (T : Tk) (tot : Cost) (X : Rch × List Bnd) (s : St) : Rch × List Bnd:=
 match X.1 s with
 | none=>X
 | some a=>(rlx X.1 a (T.steps s),if clt a tot=true then X.2 ++ [((s.1 : Int),s.2,a.1,a.2)] else X.2)
def prRow (T : Tk) (tot : Cost) (X : Rch × List Bnd) (set : Nat) : Nat→Rch × List Bnd
 | 0=>X
 | k + 1=>prS T tot (prRow T tot X set k) (set,(k : Int) - 1)
def prAll (T : Tk) (tot : Cost) (n : Nat) (X : Rch × List Bnd) : Nat→Rch × List Bnd
 | 0=>X
 | j + 1=>prRow T tot (prAll T tot n X j) j n
def R0 (base : Cost) (last : Int) : Rch:=fun x=>if x=(0,last) then some base else none
theorem prS_low {T : Tk} {tot : Cost} {X : Rch × List Bnd} {s y : St} (h : y.1 ≤ s.1) : (prS T tot X s).1 y=X.1 y:=by
 unfold prS
 split
 ·rfl
 ·exact rlx_low _ (steps_low h)
theorem prRow_low {T : Tk} {tot : Cost} {X : Rch × List Bnd} {set : Nat} {y : St} (h : y.1 ≤ set) : ∀ k,(prRow T tot X set k).1 y=X.1 y
 | 0=>rfl
 | k + 1=>by
  show (prS T tot (prRow T tot X set k) (set,(k : Int) - 1)).1 y=X.1 y
  rw [prS_low (by simpa using h),prRow_low h k]
theorem prAll_low {T : Tk} {tot : Cost} {n : Nat} {X : Rch × List Bnd} {j0 : Nat} {y : St} (h : y.1 ≤ j0) : ∀ j,j0 ≤ j→(prAll T tot n X j).1 y=(prAll T tot n X j0).1 y
 | 0,hj=>by
  obtain rfl : j0=0:=by omega
  rfl
 | j + 1,hj=>by
  by_cases he : j0=j + 1
  ·subst he; rfl
  ·show (prRow T tot (prAll T tot n X j) j n).1 y=_
   rw [prRow_low (by omega),prAll_low h j (by omega)]
def outS (R : Rch) (tot : Cost) (s : St) : List Bnd:=match R s with
 | none=>[]
 | some a=>if clt a tot=true then [((s.1 : Int),s.2,a.1,a.2)] else []
def outRow (R : Rch) (tot : Cost) (set : Nat) : Nat→List Bnd
 | 0=>[]
 | k + 1=>outRow R tot set k ++ outS R tot (set,(k : Int) - 1)
def outAll (R : Rch) (tot : Cost) (n : Nat) : Nat→List Bnd
 | 0=>[]
 | j + 1=>outAll R tot n j ++ outRow R tot j n
theorem outS_congr {R R' : Rch} {tot : Cost} {s : St} (h : R s=R' s) : outS R tot s=outS R' tot s:=by unfold outS; rw [h]
theorem outRow_congr {R R' : Rch} {tot : Cost} {set : Nat} : ∀ k,(∀ q : Nat,q < k→R (set,(q : Int) - 1)=R' (set,(q : Int) - 1))→outRow R tot set k=outRow R' tot set k
 | 0,_=>rfl
 | k + 1,h=>by
  simp only [outRow]
  rw [outRow_congr k fun q hq=>h q (by omega),outS_congr (h k (by omega))]
theorem prRow_out {T : Tk} {tot : Cost} {X : Rch × List Bnd} {set : Nat} : ∀ k,(prRow T tot X set k).2=X.2 ++ outRow X.1 tot set k
 | 0=>by simp [prRow,outRow]
 | k + 1=>by
  have h1:=prRow_out (T:=T) (tot:=tot) (X:=X) (set:=set) k
  have h2 : (prRow T tot X set k).1 (set,(k : Int) - 1)=X.1 (set,(k : Int) - 1):=prRow_low (by simp) k
  show (prS T tot (prRow T tot X set k) (set,(k : Int) - 1)).2=_
  simp only [outRow]
  unfold prS outS
  rw [h2]
  cases X.1 (set,(k : Int) - 1) with
  | none=>rw [h1]; simp
  | some a=>
   simp only
   split
   ·rw [h1,List.append_assoc]
   ·rw [h1,List.append_nil]
theorem prAll_out {T : Tk} {tot : Cost} {n : Nat} {R : Rch} {N : Nat} : ∀ j,j ≤ N→(prAll T tot n (R,[]) j).2=outAll (prAll T tot n (R,[]) N).1 tot n j
 | 0,_=>rfl
 | j + 1,hj=>by
  show (prRow T tot (prAll T tot n (R,[]) j) j n).2=_
  rw [prRow_out,prAll_out (N:=N) j (by omega)]
  simp only [outAll]
  rw [outRow_congr n fun q hq=>(prAll_low (T:=T) (tot:=tot) (n:=n) (X:=(R,[])) (j0:=j) (y:=(j,(q : Int) - 1)) (Nat.le_refl _) N (by omega)).symm]
theorem rlx_ind {P : St→Cost→Prop} : ∀ (l : List Sp) {R : Rch} {a : Cost},(∀ y c,R y=some c→P y c)→(∀ x ∈ l,P x.2.1 (cadd a x.2.2))→∀ y c,rlx R a l y=some c→P y c
 | [],_,_,h,_=>h
 | x :: l,R,a,h,hl=>by
  refine rlx_ind l ?_ fun z hz=>hl z (List.mem_cons_of_mem _ hz)
  intro y c hy
  simp only [rx] at hy
  split at hy
  ·rename_i e
   subst e
   have hx:=hl x (List.mem_cons_self ..)
   cases hR : R x.2.1 with
   | none=>rw [hR] at hy; simp only [mnO,Option.some.injEq] at hy; subst hy; exact hx
   | some w=>
    rw [hR] at hy
    simp only [mnO,Option.some.injEq] at hy
    split at hy
    ·subst hy; exact hx
    ·subst hy; exact h _ _ hR
  ·exact h y c hy
theorem prS_ind {T : Tk} {tot : Cost} {P : St→Cost→Prop} (hP : ∀ s a x,P s a→x ∈ T.steps s→P x.2.1 (cadd a x.2.2)) {X : Rch × List Bnd} {s : St} (h : ∀ y c,X.1 y=some c→P y c) : ∀ y c,(prS T tot X s).1 y=some c→P y c:=by
 unfold prS
 cases hs : X.1 s with
 | none=>exact h
 | some a=>exact rlx_ind _ h fun x hx=>hP s a x (h s a hs) hx
theorem prRow_ind {T : Tk} {tot : Cost} {P : St→Cost→Prop} (hP : ∀ s a x,P s a→x ∈ T.steps s→P x.2.1 (cadd a x.2.2)) {X : Rch × List Bnd} {set : Nat} (h : ∀ y c,X.1 y=some c→P y c) : ∀ k y c,(prRow T tot X set k).1 y=some c→P y c
 | 0=>h
 | k + 1=>prS_ind hP (prRow_ind hP h k)
theorem prAll_ind {T : Tk} {tot : Cost} {n : Nat} {P : St→Cost→Prop} (hP : ∀ s a x,P s a→x ∈ T.steps s→P x.2.1 (cadd a x.2.2)) {X : Rch × List Bnd} (h : ∀ y c,X.1 y=some c→P y c) : ∀ j y c,(prAll T tot n X j).1 y=some c→P y c
 | 0=>h
 | j + 1=>prRow_ind hP (prAll_ind hP h j) n
structure Sml (T : Tk) (B : Int) (y : St) (c : Cost) : Prop where
 p : 0 ≤ c.1
 q : c.1 + 48000 * (cnt T.f y.1 : Nat) ≤ B + 48000 * T.f
 r : 0 ≤ c.2
 s : c.2 + (cnt T.f y.1 : Nat) ≤ T.f
theorem sml_step {T : Tk} {B : Int} (hb : ∀ x set,0 ≤ T.behind x set∧T.behind x set ≤ 48000) (s : St) (a : Cost) (x : Sp) (h : Sml T B s a) (hx : x ∈ T.steps s) : Sml T B x.2.1 (cadd a x.2.2):=by
 have hs:=(mem_steps (i:=x.1) (to:=x.2.1) (c:=x.2.2)).1 hx
 have h1:=hs.cnt
 have h2:=hs.off
 have h3:=hs.to'
 have h4:=hb (T.at' x.1) s.1
 obtain ⟨a1,a2,a3,a4⟩:=h
 have h5 : 0 ≤ x.2.2.2∧x.2.2.2 ≤ 1:=by
  cases hp : T.place (T.at' x.1) with
  | none=>rw [hp] at h3; simp only [StepTo] at h3; omega
  | some p=>rw [hp] at h3; simp only [StepTo] at h3; omega
 exact ⟨by simp only [cadd]; omega,by simp only [cadd]; omega,by simp only [cadd]; omega,by simp only [cadd]; omega⟩
end Go.Gx.A
namespace Go.Gx.A
open Go.Gx Go.Proofs
set_option maxRecDepth 100000
set_option linter.all false
set_option maxHeartbeats 2000000
abbrev Q4:=Int × Int × Int × Int
def q4C (q : Q4) : List Value:=[.int .i64 q.1,.int .i64 q.2.1,.int .i64 q.2.2.1,.int .i64 q.2.2.2]
theorem q4_uni (l : List Q4) : Uni 4 (l.map q4C):=fun x hx=>by
 obtain ⟨a,_,rfl⟩:=List.mem_map.1 hx
 rfl
theorem q4_ok (l : List Q4) : (l.map q4C).flatten.all okc=true:=by
 induction l with
 | nil=>rfl
 | cons a l ih=>simp only [List.map_cons,List.flatten_cons,List.all_append,ih,Bool.and_true]; rfl
theorem q4_flen : ∀ (l : List Q4),(l.map q4C).flatten.length=l.length * 4
 | []=>rfl
 | a :: l=>by
  have:=q4_flen l
  simp only [List.map_cons,List.flatten_cons,List.length_append,List.length_cons]
  rw [this]
  simp [q4C]
  omega
def Qs (S : AS) (t : TypeId) (v : Value) (l : List Q4) : Prop:=SlAt S t v (l.map q4C)
theorem Qs.nil {S : AS} {t : TypeId} : Qs S t (.slice none 0 0) []:=.inl ⟨rfl,rfl⟩
theorem Qs.stays {S S' : AS} {t : TypeId} {v : Value} {l : List Q4} (h : Qs S t v l) {fp : List Nat} (hs : Same S S' fp) (hd : ∀ m ∈ ownsOf v,m ∉ fp) : Qs S' t v l:=SlAt.stays h hs hd
theorem Qs.stay0 {S S' : AS} {t : TypeId} {v : Value} {l : List Q4} (h : Qs S t v l) (hs : Same S S' []) : Qs S' t v l:=h.stays hs (by simp)
theorem Qs.app1 {S T : AS} {t : TypeId} {v : Value} {l : List Q4} (h : Qs S t v l) (hT : Same S T []) {p fr : Nat} {a : Q4} {wr ex : Bool} (hp : T.get p=some (.row (q4C a) t wr ex)) (hfr : fr < T.next) (hfS : S.next ≤ fr) (hb : l.length ≤ 100000) :
  ∃ T',appV T fr t 4 32 v (.slice (some ⟨p,0,none⟩) 1 1)=some (.slice (some ⟨fr,0,none⟩) (l.length + 1) (l.length + 1),T')∧Qs T' t (.slice (some ⟨fr,0,none⟩) (l.length + 1) (l.length + 1)) (l ++ [a])∧Same S T' (ownsOf v)∧T'.next=T.next:=by
 have hsl : SlAt T t v (l.map q4C):=SlAt.stays h hT (by simp)
 have hy : srcCells T 4 (.slice (some ⟨p,0,none⟩) 1 1)=some (([a].map q4C).length,([a].map q4C).flatten):=by
  unfold srcCells
  simp only [hp]
  simp [q4C]
 obtain ⟨T0,a1,a2,a3⟩:=appV_new (fr:=fr) (bytes:=32) hsl (q4_uni l) (by omega) (by simp) (q4_uni [a]) hy (by simp; omega) (by omega) (q4_ok [a])
 simp only [List.length_map,List.length_singleton] at a1
 refine ⟨_,a1,.inr ⟨fr,false,by simp,?_,by simp only [AS.next_put,a2]; exact hfr⟩,?_,by simp only [AS.next_put]; exact a2⟩
 ·rw [AS.get_put_self]; simp
 ·refine ⟨by simp only [AS.next_put,a2]; exact hT.1,fun q hq hn=>?_⟩
  rw [AS.get_put_ne _ _ (by omega),a3 q hn,hT.2 q hq (by simp)]
theorem Qs.ps {S : AS} {t : TypeId} {v : Value} {l : List Q4} (h : Qs S t v l) (hl : l.length ≤ 100000) : Ps S 4 v (l.map q4C):=by
 rcases h with ⟨rfl,hn⟩ | ⟨p,ex,rfl,h2,h3⟩
 ·have : l=[]:=List.map_eq_nil_iff.1 hn
  subst this
  exact ⟨⟨none,0,rfl⟩,rfl,q4_uni [],by simp [ownsOf]⟩
 ·refine ⟨⟨_,_,rfl⟩,?_,q4_uni l,by simpa [ownsOf] using h3⟩
  have hf:=q4_flen l
  unfold srcCells
  simp only [h2,List.length_map]
  by_cases h0 : l.length * 4=0
  ·rw [if_pos h0]
   have : l=[]:=List.length_eq_zero_iff.1 (by omega)
   subst this
   rfl
  ·rw [if_neg h0,if_pos (by omega),List.drop_zero,← hf,List.take_length]
theorem q4_at {S : AS} {v : Value} {l : List Q4} (h : Ps S 4 v (l.map q4C)) {i : Nat} (hi : i < l.length) :
  ∃ p o cells e wr ex,(∀ (S' : AS) (j : IntKind),idxE S' 4 none (.int j i) v=.ret (.pointer (some ⟨p,o,none⟩),S'))∧S.get p=some (.row cells e wr ex)∧p < S.next∧p ∈ ownsOf v∧rowLoad cells o (some 4)=some (.agg (q4C l[i]).toArray) ∧
   cells[o]?=some (.int .i64 l[i].1)∧cells[o + 1]?=some (.int .i64 l[i].2.1)∧cells[o + 2]?=some (.int .i64 l[i].2.2.1)∧cells[o + 3]?=some (.int .i64 l[i].2.2.2):=by
 obtain ⟨p,o,cells,e,wr,ex,h1,h2,h3,h4,h5,h6⟩:=Ps.idx (S':=S) h (by omega) (j:=.i64) (i:=i) (l:=q4C l[i]) (by simp [hi])
 refine ⟨p,o,cells,e,wr,ex,fun S' j=>?_,h2,h3,h4,h6,by simpa [q4C] using h5 0 (by omega),by simpa [q4C] using h5 1 (by omega),by simpa [q4C] using h5 2 (by omega),by simpa [q4C] using h5 3 (by omega)⟩
 obtain ⟨a,cap,rfl⟩:=h.shape
 match a with
 | none=>simp [idxE] at h1
 | some ⟨b,q,some s⟩=>simp [idxE] at h1
 | some ⟨b,q,none⟩=>
  simp [hi] at h1 ⊢
  exact h1
end Go.Gx.A
namespace Go.Gx.A
open Go.Gx Go.Proofs
set_option maxRecDepth 100000
set_option linter.all false
set_option maxHeartbeats 2000000
end Go.Gx.A
namespace Go.Gx.A
open Go.Gx Go.Proofs
set_option maxRecDepth 100000
set_option linter.all false
set_option maxHeartbeats 4000000
def celV : Option Cost→List Value
 | none=>[.bool false,.int .i64 0,.int .i64 0]
 | some c=>[.bool true,.int .i64 c.1,.int .i64 c.2]
def celL (w : Nat) (f : Nat→Option Cost) : List (List Value):=(List.range w).map fun k=>celV (f k)
def celR (w : Nat) (f : Nat→Option Cost) : List Value:=(celL w f).flatten
structure Tc (S : AS) (v : Value) (rs : List Nat) (w : Nat) (M : Nat→Nat→Option Cost) : Prop where
 sl : SlAt S 142 v (rs.map fun r=>[rowv w r])
 rows : ∀ (i r : Nat),rs[i]?=some r→S.get r=some (.row (celR w (M i)) 141 true true)∧r < S.next∧r ∉ ownsOf v
 nd : rs.Nodup
theorem Tc.at {S : AS} {v : Value} {rs : List Nat} {w : Nat} {M : Nat→Nat→Option Cost} (h : Tc S v rs w M) {i : Nat} (hi : i < rs.length) :
  ∃ p ex r,(∀ (S' : AS) (j : IntKind),idxE S' 1 none (.int j i) v=.ret (.pointer (some ⟨p,i,none⟩),S'))∧S.get p=some (.row (rs.map (rowv w)) 142 true ex)∧(rs.map (rowv w))[i]?=some (.slice (some ⟨r,0,none⟩) w w) ∧
   S.get r=some (.row (celR w (M i)) 141 true true)∧r < S.next∧p < S.next∧r ≠ p∧rs[i]?=some r∧p ∈ ownsOf v∧r ∈ rs:=by
 have hl : (rs.map fun r=>[rowv w r]).length=rs.length:=by simp
 obtain ⟨p,ex,h1,h2,h3,h4⟩:=h.sl.idx (S':=S) (k:=1) (i:=i) (j:=.i64) (by rw [hl]; exact hi)
 obtain ⟨g1,g2,g3⟩:=h.rows i rs[i] (List.getElem?_eq_getElem hi)
 refine ⟨p,ex,rs[i],fun S' j=>?_,by rw [h2,flat1],by simp [hi,rowv],g1,g2,h3,fun e=>g3 (e ▸ h4),List.getElem?_eq_getElem hi,h4,List.getElem_mem hi⟩
 rcases h.sl with ⟨rfl,hn⟩ | ⟨p',ex',rfl,h5,h6⟩
 ·simp at hn; subst hn; simp at hi
 ·simp [ownsOf] at h4
  subst h4
  simp [hi]
theorem Tc.stays {S S' : AS} {v : Value} {rs : List Nat} {w : Nat} {M : Nat→Nat→Option Cost} (h : Tc S v rs w M) {fp : List Nat} (hs : Same S S' fp) (hd : ∀ m ∈ ownsOf v,m ∉ fp) (hr : ∀ m ∈ rs,m ∉ fp) : Tc S' v rs w M:=by
 refine ⟨h.sl.stays hs hd,fun i r hi=>?_,h.nd⟩
 obtain ⟨g1,g2,g3⟩:=h.rows i r hi
 exact ⟨by rw [hs.2 r g2 (hr r (List.mem_of_getElem? hi))]; exact g1,Nat.lt_of_lt_of_le g2 hs.1,g3⟩
def Cg.tbl (c : Cg) (j : Nat) : Rch × List Bnd:=prAll c.tk c.goal.total (c.old.length + 1) (R0 (c.goal.base,0) c.goal.last0,[]) j
def Cg.tblRow (c : Cg) (j k : Nat) : Rch:=(prRow c.tk c.goal.total (c.tbl j) j k).1
theorem tblRow_none {c : Cg} {j k : Nat} (h : c.tblRow j k (j,(k : Int) - 1)=none) : c.tblRow j (k + 1)=c.tblRow j k:=by
 unfold Cg.tblRow at h ⊢
 simp only [prRow,prS,h]
theorem tblRow_some {c : Cg} {j k : Nat} {a : Cost} (h : c.tblRow j k (j,(k : Int) - 1)=some a) : c.tblRow j (k + 1)=rlx (c.tblRow j k) a (c.tk.steps (j,(k : Int) - 1)):=by
 unfold Cg.tblRow at h ⊢
 simp only [prRow,prS,h]
theorem R0_sml (c : Cg) (k : CgSm c) : ∀ y a,R0 (c.goal.base,0) c.goal.last0 y=some a→Sml c.tk 576000 y a:=by
 intro y a h
 unfold R0 at h
 split at h
 ·rename_i e
  subst e
  simp only [Option.some.injEq] at h
  subst h
  have hb:=base_bd k
  have hc:=cnt_start c.tk.f
  exact ⟨hb.1,by simp only [hc]; omega,Int.le_refl _,by simp only [hc]; omega⟩
 ·cases h
theorem tblRow_sml {c : Cg} (k : CgSm c) (j q : Nat) : ∀ y a,c.tblRow j q y=some a→Sml c.tk 576000 y a:=
 prRow_ind (fun s a x=>sml_step (fun x set=>behind_bd k x set) s a x) (prAll_ind (fun s a x=>sml_step (fun x set=>behind_bd k x set) s a x) (R0_sml c k) j) q
end Go.Gx.A
