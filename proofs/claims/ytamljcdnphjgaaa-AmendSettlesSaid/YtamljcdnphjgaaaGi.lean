/-
  'm[k]++': an entry is looked at, made where it lacks, and filled.
-/
import Derived.Test.YtamljcdnphjgaaaGh
set_option linter.all false
set_option linter.deprecated false
set_option linter.unusedSimpArgs false
set_option linter.unusedVariables false
namespace Go.Gx
section
variable {ev : Operand→Value} {fr : Nat} {S : AS}
def mentR (S : AS) (n : Nat) (es : List MapEntry) (c : Nat) (k z : Value) : Option (Option (Nat × Value))→T (Value × AS)
 | some (some (i,v))=>.ret (.tuple #[v,vi (((es[i]?).map (·.born)).getD 0)],S)
 | some none=>.ret (.tuple #[z,vi c],S.put n (.map (es ++ [{ key:=k,val:=z,born:=c }]) (c + 1)))
 | none=>.fail
def mentO (S : AS) (ks : List K) (agg : Bool) (n : Nat) (k z : Value) : Option AObj→T (Value × AS)
 | some (.map es c)=>mentR S n es c k z (findC ks agg k es)
 | _=>.fail
def mentE (S : AS) (ks : List K) (agg : Bool) (z k : Value) : Value→T (Value × AS)
 | .map (some n)=>mentO S ks agg n k z (S.get n)
 | _=>.fail
@[simp] theorem eval_ment {ks : List K} {agg : Bool} {z : Value} {m k : Operand} : (I.ment ks agg z m k).eval ev fr S=mentE S ks agg z (ev k) (ev m):=by
 simp only [I.eval,mentE]
 generalize ev m=vx
 cases vx <;> try rfl
def estR (S : AS) (n : Nat) (es : List MapEntry) (c : Nat) (v : Value) : Option Nat→T (Value × AS)
 | some i=>.ret (undef,S.put n (.map (es.modify i fun e=>{ e with val:=v }) c))
 | none=>.fail
def estO (S : AS) (n : Nat) (born : Int) (v : Value) : Option AObj→T (Value × AS)
 | some (.map es c)=>estR S n es c v (es.findIdx? fun e=>(e.born : Int) == born)
 | _=>.fail
def estE (S : AS) (v : Value) : Value→Value→T (Value × AS)
 | .map (some n),.int _ born=>estO S n born v (S.get n)
 | _,_=>.fail
@[simp] theorem eval_estore {m s v : Operand} : (I.estore m s v).eval ev fr S=estE S (ev v) (ev m) (ev s):=by
 simp only [I.eval,estE]
 generalize ev m=vx
 generalize ev s=vy
 cases vx <;> try rfl
end
section
variable {ks : List K} {agg : Bool} {α : Type} [DecidableEq α] {key : α→Value}
theorem findIdx_new {es : List MapEntry} (hn : (es.map (·.born)).Nodup) {i : Nat} (hi : i < es.length) {b : Nat} (hb : es[i].born=b) : es.findIdx? (fun e=>(e.born : Int) == (b : Int))=some i:=by
 rw [List.findIdx?_eq_some_iff_getElem]
 refine ⟨hi,by simp [hb],fun j hj he=>?_⟩
 have he0 : ((es[j].born : Nat) : Int)=(b : Int):=by simpa using he
 have he' : es[j].born=b:=by omega
 have h1 : (es.map (·.born))[j]'(by simp; omega)=(es.map (·.born))[i]'(by simp; omega):=by simp [he',hb]
 have:=(List.getElem_inj hn).1 h1
 omega
theorem est_ok {S : AS} {n : Nat} {es : List MapEntry} {c i b : Nat} {l : List (α × Value)} {a : α} (hg : S.get n=some (.map es c)) (hn : (es.map (·.born)).Nodup) (hi : i < es.length) (hb : es[i].born=b) (hlt : ∀ e ∈ es,e.born < c)
  (hkv : ∀ v,(es.modify i fun e=>{ e with val:=v }).map (fun e=>(e.key,e.val))=(aset l a v).map fun p=>(key p.1,p.2)) (hnd : (l.map (·.1)).Nodup) (u : Value) :
  ∃ o,estE S u (.map (some n)) (.int .i64 (b : Int))=.ret (undef,S.put n o)∧MapL (S.put n o) n key (aset l a u):=by
 have hbm : (es.modify i fun e=>{ e with val:=u }).map (·.born)=es.map (·.born):=by
  refine List.ext_getElem (by simp) fun i h1 h2=>?_
  simp only [List.getElem_map,List.getElem_modify]
  split <;> rfl
 refine ⟨.map (es.modify i fun e=>{ e with val:=u }) c,?_,_,_,AS.get_put_self _ _ _,hkv u,aset_nodup hnd,by rw [hbm]; exact hn,fun e he=>?_⟩
 ·simp only [estE,hg,estO,findIdx_new hn hi hb,estR]
 ·have : e.born ∈ (es.modify i fun e=>{ e with val:=u }).map (·.born):=List.mem_map.2 ⟨e,he,rfl⟩
  rw [hbm] at this
  obtain ⟨e',he',hb'⟩:=List.mem_map.1 this
  rw [← hb']; exact hlt e' he'
theorem modify_snoc {β : Type} (f : β→β) (e : β) : ∀ (l : List β),(l ++ [e]).modify l.length f=l ++ [f e]
 | []=>rfl
 | a :: l=>by
  show (a :: (l ++ [e])).modify (l.length + 1) f=_
  rw [List.modify_succ_cons,modify_snoc f e l]; rfl
theorem MapL.ment (hk : KeyEnc ks agg key) {S : AS} {n : Nat} {l : List (α × Value)} (h : MapL S n key l) (a : α) (z : Value) :
  ∃ S1 b l1,mentE S ks agg z (key a) (.map (some n))=.ret (.tuple #[(lkp l a).getD z,.int .i64 ((b : Nat) : Int)],S1)∧MapL S1 n key l1∧(lkp l1 a).getD z=(lkp l a).getD z∧Same S S1 [n]∧S1.next=S.next ∧
   ∀ u,∃ o,estE S1 u (.map (some n)) (.int .i64 ((b : Nat) : Int))=.ret (undef,S1.put n o)∧MapL (S1.put n o) n key (aset l a u):=by
 obtain ⟨es,c,h1,h2⟩:=h
 obtain ⟨r,g1,g2,g3⟩:=findK_ents hk a es l 0 h2.kv
 have hf : findC ks agg (key a) es=some r:=by simp [findC,hk.ok,g1]
 cases r with
 | none=>
  have hno : lkp l a=none:=by rw [← g2]; rfl
  have hbn : ((es ++ [({ key:=key a,val:=z,born:=c } : MapEntry)]).map (·.born)).Nodup:=by
   rw [List.map_append,List.nodup_append]
   refine ⟨h2.bn,by simp,fun x hx y hy=>?_⟩
   simp at hy; subst hy
   obtain ⟨e,he,rfl⟩:=List.mem_map.1 hx
   have:=h2.lt e he
   omega
  have hlt : ∀ e ∈ es ++ [({ key:=key a,val:=z,born:=c } : MapEntry)],e.born < c + 1:=by
   intro e he
   rcases List.mem_append.1 he with he | he
   ·have:=h2.lt e he; omega
   ·simp at he; subst he; simp
  have hM1 : MapL (S.put n (.map (es ++ [{ key:=key a,val:=z,born:=c }]) (c + 1))) n key (aset l a z):=by
   refine ⟨_,_,AS.get_put_self _ _ _,?_,aset_nodup h2.nd,hbn,hlt⟩
   rw [aset_new hno,List.map_append,List.map_append,h2.kv]; rfl
  refine ⟨_,c,_,?_,hM1,?_,same_put _ _ _,rfl,fun u=>est_ok (i:=es.length) (AS.get_put_self _ _ _) hbn (by simp) (by simp) hlt (fun v=>?_) h2.nd u⟩
  ·simp only [mentE,h1,mentO,hf,mentR,hno,Option.getD_none]
   rfl
  ·rw [lkp_aset,hno]; simp [upd1]
  ·rw [modify_snoc,aset_new hno,List.map_append,List.map_append,h2.kv]; rfl
 | some p=>
  obtain ⟨j,u⟩:=p
  obtain ⟨j',e1,e2⟩:=g3 j u rfl
  have e1' : j=j':=by omega
  subst e1'
  have hj : j < es.length:=by
   obtain ⟨_,e,he,_⟩:=findK_spec g1
   have:=(List.getElem?_eq_some_iff.1 he).1
   omega
  refine ⟨S,es[j].born,l,?_,⟨es,c,h1,h2⟩,rfl,.refl _ _,rfl,fun v=>est_ok h1 h2.bn hj rfl h2.lt e2 h2.nd v⟩
  have hlk : lkp l a=some u:=by rw [← g2]; rfl
  simp only [mentE,h1,mentO,hf,mentR,hlk,Option.getD_some,List.getElem?_eq_getElem hj,Option.map_some]
  rfl
end
end Go.Gx
