/-
  A sort of triples by their first number, and a new row by a contract of its own, as steps of the abstract machine: what they give.
-/
import Derived.Test.YtnhaainnhmmbfaaGreatGj
set_option linter.all false
set_option linter.deprecated false
namespace Go.Gx
open Go.Proofs Go.RowKit Go.Lib Go.Sort
abbrev Tri:=Int × Int × Int
def enc3 (p : Tri) : List Value:=[.int .i64 p.1,.int .i64 p.2.1,.int .i64 p.2.2]
def flat3 (l : List Tri) : List Value:=l.flatMap enc3
def unflat3 : List Value→Option (List Tri)
 | []=>some []
 | .int .i64 a :: .int .i64 b :: .int .i64 c :: l=>(unflat3 l).map ((a,b,c) :: ·)
 | _=>none
def le3 (x y : Tri) : Bool:=decide (x.1≤y.1)
def tsortV (g : Nat) (e : TypeId) (args : List Value) (S : AS) : Option (Value × AS):=
 match args with
 | [.slice base n _,.func (.func g') a b]=>
  if g'=g∧a=#[]∧b=#[]∧n < 4611686018427387904 then
   match base with
   | none=>if n=0 then some (.tuple #[],S) else none
   | some ⟨bl,o,none⟩=>
    if n=0 then some (.tuple #[],S) else
    match S.get bl with
    | some (.row cs e' true ex)=>
     if e'=e∧o + n * 3≤cs.length then
      match unflat3 ((cs.drop o).take (n * 3)) with
      | some L=>if (L.map (·.1)).Nodup then some (.tuple #[],S.put bl (.row (splice cs o (flat3 (L.mergeSort le3))) e true ex)) else none
      | none=>none
     else none
    | _=>none
   | _=>none
  else none
 | _=>none
abbrev Qd:=(Int × Int) × (Int × Int)
def enc4 (p : Qd) : List Value:=[.int .i64 p.1.1,.int .i64 p.1.2,.int .i64 p.2.1,.int .i64 p.2.2]
def flat4 (l : List Qd) : List Value:=l.flatMap enc4
def unflat4 : List Value→Option (List Qd)
 | []=>some []
 | .int .i64 a :: .int .i64 b :: .int .i64 c :: .int .i64 d :: l=>(unflat4 l).map (((a,b),(c,d)) :: ·)
 | _=>none
theorem unflat4_flat : ∀ L : List Qd,unflat4 (flat4 L)=some L
 | []=>rfl
 | p :: L=>by
  show unflat4 (.int .i64 p.1.1 :: .int .i64 p.1.2 :: .int .i64 p.2.1 :: .int .i64 p.2.2 :: flat4 L)=_
  simp only [unflat4,unflat4_flat L,Option.map_some]
theorem unflat4_eq {l : List Value} {L : List Qd} (h : unflat4 l=some L) : l=flat4 L:=by
 induction l using unflat4.induct generalizing L with
 | case1=>simp only [unflat4] at h; cases h; rfl
 | case2 a b c d l ih=>
  simp only [unflat4] at h
  cases hl : unflat4 l with
  | none=>rw [hl] at h; cases h
  | some M=>
   rw [hl] at h
   simp only [Option.map_some,Option.some.injEq] at h
   subst h
   rw [ih hl]; rfl
 | case3 l h1 h2=>
  rw [unflat4] at h
  ·cases h
  ·exact h1
  ·exact h2
theorem flat4_len (L : List Qd) : (flat4 L).length=L.length * 4:=by
 induction L with
 | nil=>rfl
 | cons p L ih=>show ((enc4 p) ++ flat4 L).length=_; rw [List.length_append,ih]; simp [enc4]; omega
def le4 (x y : Qd) : Bool:=le2 x.1 y.1
def asortV (g : Nat) (e : TypeId) (args : List Value) (S : AS) : Option (Value × AS):=
 match args with
 | [.slice base n _,.func (.func g') a b]=>
  if g'=g∧a=#[]∧b=#[]∧n < 4611686018427387904 then
   match base with
   | none=>if n=0 then some (.tuple #[],S) else none
   | some ⟨bl,o,none⟩=>
    if n=0 then some (.tuple #[],S) else
    match S.get bl with
    | some (.row cs e' true ex)=>
     if e'=e∧o + n * 4≤cs.length then
      match unflat4 ((cs.drop o).take (n * 4)) with
      | some L=>if (L.map (·.1)).Nodup then some (.tuple #[],S.put bl (.row (splice cs o (flat4 (L.mergeSort le4))) e true ex)) else none
      | none=>none
     else none
    | _=>none
   | _=>none
  else none
 | _=>none

def encQ (f h : Int × Int→Int) (x : Int × Int) : List Value:=enc4 (x,f x,h x)
structure ASortC (P : Program) (k g : Nat) : Prop where
 fn : ∃ fn, P.funcs[k]? = some fn ∧ fn.body.isSome = true ∧ (fn.name == "runtime.NumGoroutine") = false
 none : ∀ (p : Option Addr) (cap : Nat) (fv : Value) (w : World),Calls P k #[.slice p 0 cap,fv] w fun e w'=>e=.returned (.tuple #[])∧w'=w
 all : ∀ (f h : Int × Int→Int) (blk off cap : Nat) (d : Array (Int × Int)) (w : World),HoldsK (encQ f h) 4 w blk off d→blk < w.heap.size→d.size < 4611686018427387904 →
  Calls P k #[.slice (some ⟨blk,off,Option.none⟩) d.size cap,.func (.func g) #[] #[]] w fun e w'=>e=.returned (.tuple #[])∧∃ n os,w'=grow (putRowK (encQ f h) 4 (Sort.ahead w n) blk off (d.toList.mergeSort le2).toArray) os
theorem flat4_get : ∀ (L : List Qd) (t : Nat),t < L.length * 4→(flat4 L)[t]?=some ((enc4 (L[t / 4]!))[t % 4]!)
 | p :: L,t,h=>by
  show (.int .i64 p.1.1 :: .int .i64 p.1.2 :: .int .i64 p.2.1 :: .int .i64 p.2.2 :: flat4 L : List Value)[t]?=_
  match t with
  | 0=>rfl
  | 1=>rfl
  | 2=>rfl
  | 3=>rfl
  | t + 4=>
   have e1 : (t + 4) / 4=t / 4 + 1:=by omega
   have e2 : (t + 4) % 4=t % 4:=by omega
   rw [e1,e2]
   simp only [List.getElem?_cons_succ]
   rw [flat4_get L t (by simp only [List.length_cons] at h; omega)]
   simp
theorem enc4_get (p : Qd) (t : Nat) (h : t < 4) : ∃ k n,(enc4 p)[t]! = .int k n:=by
 match t,h with
 | 0,_=>exact ⟨_,_,rfl⟩
 | 1,_=>exact ⟨_,_,rfl⟩
 | 2,_=>exact ⟨_,_,rfl⟩
 | 3,_=>exact ⟨_,_,rfl⟩
def qdF (f h : Int × Int→Int) (x : Int × Int) : Qd:=(x,f x,h x)
theorem qd_find : ∀ {L : List Qd},(L.map (·.1)).Nodup→∀ e∈L,L.find? (fun e'=>decide (e'.1=e.1))=some e
 | [],_,e,he=>by simp at he
 | a :: L,hn,e,he=>by
  rw [List.map_cons,List.nodup_cons] at hn
  rw [List.find?_cons]
  rcases List.mem_cons.1 he with rfl | h
  ·simp
  ·have : ¬ a.1=e.1:=fun q=>hn.1 (q ▸ List.mem_map.2 ⟨e,h,rfl⟩)
   simp only [this,decide_false]
   exact qd_find hn.2 e h
theorem qd_fun {L : List Qd} (hn : (L.map (·.1)).Nodup) : ∃ f h : Int × Int→Int,(L.map (·.1)).map (qdF f h)=L:=by
 refine ⟨fun x=>((L.find? fun e=>decide (e.1=x)).map (·.2.1)).getD 0,fun x=>((L.find? fun e=>decide (e.1=x)).map (·.2.2)).getD 0,?_⟩
 rw [List.map_map]
 conv=>rhs; rw [← List.map_id L]
 refine List.map_congr_left fun e he=>?_
 simp only [Function.comp,qdF,qd_find hn e he,Option.map_some,Option.getD_some,id]
theorem qd_get {f h : Int × Int→Int} {L : List Qd} (hF : (L.map (·.1)).map (qdF f h)=L) {j : Nat} (hj : j / 4 < L.length) : (encQ f h ((L.map (·.1)).toArray[j / 4]!))[j % 4]! = (enc4 (L[j / 4]!))[j % 4]!:=by
 have h1 : L[j / 4]! = qdF f h ((L.map (·.1)).toArray[j / 4]!):=by
  conv=>lhs; rw [← hF]
  simp [hj]
 rw [h1]; rfl
theorem qd_sorted {f h : Int × Int→Int} {L : List Qd} (hF : (L.map (·.1)).map (qdF f h)=L) {j : Nat} (hj : j / 4 < L.length) : (encQ f h (((L.map (·.1)).mergeSort le2).toArray[j / 4]!))[j % 4]! = (enc4 ((L.mergeSort le4)[j / 4]!))[j % 4]!:=by
 have hm : ((L.map (·.1)).mergeSort le2).map (qdF f h)=L.mergeSort le4:=by
  exact (List.map_mergeSort (r:=le2) (s:=le4) (fun a _ b _=>rfl)).trans (by rw [hF])
 have h1 : (L.mergeSort le4)[j / 4]! = qdF f h (((L.map (·.1)).mergeSort le2).toArray[j / 4]!):=by
  rw [← hm]
  have h2 : j / 4 < ((L.map (·.1)).mergeSort le2).length:=by simpa using hj
  simp [h2,hj]
 rw [h1]; rfl
section
variable {P : Program} {prot : Nat→Option Obj} {w0 : World} {r : Rho} {S : AS} {w : World}
theorem LR.ints4 {l l' : List Value} {L : List Qd} (h : LR P r l l') (hl : l=flat4 L) : l'=flat4 L:=by
 subst hl
 apply List.ext_getElem?
 intro t
 by_cases ht : t < L.length * 4
 ·have h1:=flat4_get L t ht
  obtain ⟨v',h2,h3⟩:=h.get? h1
  rw [h1,h2]
  congr 1
  have h4 : t % 4=0∨t % 4=1∨t % 4=2∨t % 4=3:=by omega
  rcases h4 with hm | hm | hm | hm
  ·rw [hm] at h3 ⊢
   exact h3.int_inv
  ·rw [hm] at h3 ⊢
   exact h3.int_inv
  ·rw [hm] at h3 ⊢
   exact h3.int_inv
  ·rw [hm] at h3 ⊢
   exact h3.int_inv
 ·have e : l'.length=L.length * 4:=by rw [← h.1,flat4_len]
  rw [List.getElem?_eq_none (by omega),List.getElem?_eq_none (by rw [flat4_len]; omega)]
theorem asortV_ok {k g : Nat} (e : TypeId) (hC : ASortC P k g) : ExtOK P (fun k' args S=>if k'=k then asortV g e args S else none):=by
 intro k' args S x h
 simp only at h
 split at h
 case isFalse=>cases h
 rename_i hk
 subst hk
 refine ⟨hC.fn,?_⟩
 intro prot w0 r w args' hR hl
 unfold asortV at h
 split at h
 case h_2=>cases h
 rename_i base n cap g' fa fb
 split at h
 case isFalse=>cases h
 rename_i hcond
 obtain ⟨rfl,rfl,rfl,hsz⟩:=hcond
 obtain ⟨a',l1,rfl,ha,hl1⟩:=hl.cons_inv
 obtain ⟨b',l2,rfl,hb,hl2⟩:=hl1.cons_inv
 have:=hl2.nil_inv; subst this
 obtain ⟨fa',fb',rfl,hfa,hfb⟩:=hb.func_inv
 have hfa0 : fa'=#[]:=by have:=hfa.1; apply Array.eq_empty_of_size_eq_zero; simpa using this.symm
 have hfb0 : fb'=#[]:=by have:=hfb.1; apply Array.eq_empty_of_size_eq_zero; simpa using this.symm
 subst hfa0
 subst hfb0
 have hvt : ∀ r' : Rho,VR P r' (.tuple #[]) (.tuple #[]):=fun r'=>.tuple _ _ rfl fun i v v' h=>by simp at h
 have hext : Ext r r S.next:=⟨fun _ _ h=>h,fun m _ h=>h⟩
 split at h
 ·-- nil
  split at h
  case isFalse=>cases h
  rename_i hn0
  cases h
  subst hn0
  obtain ⟨rfl,_,_⟩:=ha.sliceNil_inv
  refine (hC.none none 0 _ w).mono ?_
  rintro e w' ⟨rfl,rfl⟩
  exact ⟨r,_,rfl,hvt r,hext,Nat.le_refl _,hR⟩
 ·rename_i bl o
  split at h
  ·rename_i hn0
   cases h
   subst hn0
   obtain ⟨M,cap',x',hM,rfl,_⟩:=ha.slice_inv
   refine (hC.none (some ⟨M.b,x',none⟩) cap' _ w).mono ?_
   rintro e w' ⟨rfl,rfl⟩
   exact ⟨r,_,rfl,hvt r,hext,Nat.le_refl _,hR⟩
  rename_i hn0
  split at h
  case h_2=>cases h
  rename_i cs e' ex hgb
  split at h
  case isFalse=>cases h
  rename_i hc2
  obtain ⟨rfl,hle⟩:=hc2
  split at h
  case h_2=>cases h
  rename_i L hL
  split at h
  case isFalse=>cases h
  rename_i hnd
  cases h
  obtain ⟨f1,f2,hF⟩:=qd_fun hnd
  obtain ⟨M,cap',x',hM,rfl,hcap,hncap,hx'⟩:=ha.slice_inv
  obtain ⟨cc,fz,hblk,r1,r2,r3,r4,r5,r6,hw⟩:=hR.row hgb hM
  have hxx : x'=M.base + o:=by
   rcases hx' with h | h
   ·exact h
   ·omega
  subst hxx
  have hsl:=window (o:=o) (k:=n * 4) hw r2 hle
  have hfl:=unflat4_eq hL
  have hLn : L.length=n:=by have:=congrArg List.length hfl; rw [flat4_len,List.length_take,List.length_drop] at this; omega
  have hcc:=hsl.ints4 hfl
  have hH : HoldsK (encQ f1 f2) 4 w M.b (M.base + o) (L.map (·.1)).toArray:=by
   intro j hj
   have hj' : j < L.length * 4:=by simpa using hj
   have hg:=flat4_get L j hj'
   rw [← hcc,List.getElem?_take_of_lt (by omega),List.getElem?_drop] at hg
   refine ⟨?_,?_⟩
   ·rw [cell_of hblk]
    have h2 : (flatK (encQ f1 f2) 4 (L.map (·.1)).toArray)[j]! = (enc4 (L[j / 4]!))[j % 4]!:=by rw [get_flatK _ _ _ _ (by simpa using hj'),qd_get hF (by omega)]
    rw [h2]
    simpa using hg
   ·rw [frozen_of hblk]
    rcases (r6 rfl).ok with h | h
    ·rw [h]
     by_cases h3 : fz.2≤M.base + o + j
     ·simp [Nat.not_lt.2 h3]
     ·simp [h3]
    ·have hjc : M.base + o + j < cc.size:=by have:=(List.getElem?_eq_some_iff.1 hg).1; simpa using this
     have : ¬ (fz.1≤M.base + o + j):=by omega
     simp [this]
  have hcall:=hC.all f1 f2 M.b (M.base + o) cap' (L.map (·.1)).toArray w hH (lt_of_get hblk) (by simpa [hLn] using hsz)
  simp only [List.size_toArray,List.length_map,hLn] at hcall
  refine hcall.mono ?_
  rintro e w' ⟨rfl,m,os,rfl⟩
  refine ⟨r,_,rfl,hvt r,hext,by simp,?_⟩
  refine Rel.growW ?_ os
  unfold putRowK putRow
  rw [mapBlock_upd (w:=Sort.ahead w m) hblk,upd_ahead]
  refine Rel.aheadW ?_ m
  refine hR.upd hgb rfl hM ?_ rfl
  simp only [ObjR]
  have hLl : (L.mergeSort le4).length=n:=by rw [List.length_mergeSort]; exact hLn
  refine ⟨trivial,r1,?_,r3,?_,r5,fun _=>?_,fun i v hv=>?_⟩
  ·rw [splice_len _ _ _ (by rw [flat4_len,hLl]; exact hle)]; exact r2
  ·simpa [putCells] using r4
  ·simpa [putCells] using r6 rfl
  ·have hfl2 : (flat4 (L.mergeSort le4)).length=n * 4:=by rw [flat4_len,hLl]
   have hsp : (splice cs o (flat4 (L.mergeSort le4)))[i]?=if i < o then cs[i]? else if i < o + n * 4 then (flat4 (L.mergeSort le4))[i - o]? else cs[i]?:=by
    have:=sp_get (c:=cs) (vs:=flat4 (L.mergeSort le4)) (o:=o) (by omega) i
    rw [hfl2] at this
    exact this
   rw [hsp] at hv
   have hold : ∀ u,cs[i]?=some u→∃ v',cc[M.base + i]?=some v'∧VR P r u v':=fun u hu=>by
    obtain ⟨v',k1,k2⟩:=hw.get? hu
    have hi : i < cs.length:=(List.getElem?_eq_some_iff.1 hu).1
    rw [List.getElem?_take_of_lt (by omega),List.getElem?_drop] at k1
    exact ⟨v',by simpa using k1,k2⟩
   unfold putCells
   rw [Array.getElem?_mapIdx]
   simp only [size_flatK,List.size_toArray,List.length_mergeSort,List.length_map,hLn]
   by_cases c1 : i < o
   ·rw [if_pos c1] at hv
    obtain ⟨v',k1,k2⟩:=hold v hv
    exact ⟨v',by rw [k1,Option.map_some,if_neg (by omega)],k2⟩
   ·rw [if_neg c1] at hv
    by_cases c2 : i < o + n * 4
    ·rw [if_pos c2,flat4_get _ _ (by omega)] at hv
     have hlt : M.base + i < cc.size:=by omega
     refine ⟨v,?_,?_⟩
     ·rw [Array.getElem?_eq_getElem hlt,Option.map_some,if_pos (by omega)]
      rw [show M.base + i - (M.base + o)=i - o from by omega,get_flatK _ _ _ _ (by simp [hLn]; omega),qd_sorted hF (by omega)]
      simpa using hv
     ·obtain ⟨kk,nn,hkn⟩:=enc4_get ((L.mergeSort le4)[(i - o) / 4]!) ((i - o) % 4) (by omega)
      rw [hkn] at hv
      cases hv
      exact .int _ _
    ·rw [if_neg c2] at hv
     obtain ⟨v',k1,k2⟩:=hold v hv
     exact ⟨v',by rw [k1,Option.map_some,if_neg (by omega)],k2⟩
 ·cases h
end
end Go.Gx
