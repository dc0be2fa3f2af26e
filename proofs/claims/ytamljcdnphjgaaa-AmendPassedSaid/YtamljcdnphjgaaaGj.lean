/-
  A sort of pairs by a contract of its own, as one step of the abstract machine.
-/
import Derived.Test.YtamljcdnphjgaaaGf
import Derived.Shelf.GgSortFunc.RowK
import Derived.Sort.Grow
set_option linter.all false
set_option linter.deprecated false
set_option linter.unusedSimpArgs false
set_option linter.unusedVariables false
namespace Go.Gx
open Go.Proofs Go.RowKit Go.Lib Go.Sort
def enc2 (p : Int × Int) : List Value:=[.int .i64 p.1,.int .i64 p.2]
def flat2 (l : List (Int × Int)) : List Value:=l.flatMap enc2
def unflat2 : List Value→Option (List (Int × Int))
 | []=>some []
 | .int .i64 a :: .int .i64 b :: l=>(unflat2 l).map ((a,b) :: ·)
 | _=>none
theorem unflat2_eq {l : List Value} {L : List (Int × Int)} (h : unflat2 l=some L) : l=flat2 L:=by
 induction l using unflat2.induct generalizing L with
 | case1=>simp only [unflat2] at h; cases h; rfl
 | case2 a b l ih=>
  simp only [unflat2] at h
  cases hl : unflat2 l with
  | none=>rw [hl] at h; cases h
  | some M=>
   rw [hl] at h
   simp only [Option.map_some,Option.some.injEq] at h
   subst h
   rw [ih hl]; rfl
 | case3 l h1 h2=>
  rw [unflat2] at h
  ·cases h
  ·exact h1
  ·exact h2
theorem flat2_len (L : List (Int × Int)) : (flat2 L).length=L.length * 2:=by
 induction L with
 | nil=>rfl
 | cons p L ih=>show ((enc2 p) ++ flat2 L).length=_; rw [List.length_append,ih]; simp [enc2]; omega
theorem flat2_get : ∀ (L : List (Int × Int)) (t : Nat),t < L.length * 2→(flat2 L)[t]?=some ((enc2 (L[t / 2]!))[t % 2]!)
 | p :: L,t,h=>by
  show (.int .i64 p.1 :: .int .i64 p.2 :: flat2 L : List Value)[t]?=_
  match t with
  | 0=>rfl
  | 1=>rfl
  | t + 2=>
   have e1 : (t + 2) / 2=t / 2 + 1:=by omega
   have e2 : (t + 2) % 2=t % 2:=by omega
   rw [e1,e2]
   simp only [List.getElem?_cons_succ]
   rw [flat2_get L t (by simp only [List.length_cons] at h; omega)]
   simp
def le2 (x y : Int × Int) : Bool:=decide (x.1 < y.1∨x.1=y.1∧x.2≤y.2)
structure SortC (P : Program) (k g : Nat) : Prop where
 fn : ∃ fn, P.funcs[k]? = some fn ∧ fn.body.isSome = true ∧ (fn.name == "runtime.NumGoroutine") = false
 none : ∀ (p : Option Addr) (cap : Nat) (fv : Value) (w : World),Calls P k #[.slice p 0 cap,fv] w fun e w'=>e=.returned (.tuple #[])∧w'=w
 all : ∀ (blk off cap : Nat) (d : Array (Int × Int)) (cb : Array Value) (w : World),HoldsK enc2 2 w blk off d→blk < w.heap.size→d.size < 4611686018427387904→cb=#[] →
  Calls P k #[.slice (some ⟨blk,off,Option.none⟩) d.size cap,.func (.func g) #[] cb] w fun e w'=>e=.returned (.tuple #[])∧∃ n os,w'=grow (putRowK enc2 2 (Sort.ahead w n) blk off (d.toList.mergeSort le2).toArray) os
def sortV (g : Nat) (e : TypeId) (args : List Value) (S : AS) : Option (Value × AS):=
 match args with
 | [.slice base n _,.func (.func g') a b]=>
  if g'=g∧a=#[]∧b=#[]∧n < 4611686018427387904 then
   match base with
   | none=>if n=0 then some (.tuple #[],S) else none
   | some ⟨bl,o,none⟩=>
    if n=0 then some (.tuple #[],S) else
    match S.get bl with
    | some (.row cs e' true ex)=>
     if e'=e∧o + n * 2≤cs.length then
      match unflat2 ((cs.drop o).take (n * 2)) with
      | some L=>some (.tuple #[],S.put bl (.row (splice cs o (flat2 (L.mergeSort le2))) e true ex))
      | none=>none
     else none
    | _=>none
   | _=>none
  else none
 | _=>none
section
variable {P : Program} {prot : Nat→Option Obj} {w0 : World} {r : Rho} {S : AS} {w : World}
theorem mapBlock_upd {b : Nat} {c : Array Value} {e : TypeId} {fz : Nat × Nat} {f : Array Value→Array Value} (h : w.heap[b]?=some (.cells c e fz)) : mapBlock w b f=w.upd b (.cells (f c) e fz):=by
 unfold mapBlock World.upd
 congr 1
 apply Array.ext_getElem?
 intro k
 rw [Array.getElem?_modify,Array.getElem?_setIfInBounds]
 by_cases hk : b=k
 ·subst hk
  have:=lt_of_get h
  simp only [if_true,h,Option.map_some,onCells,this]
 ·simp [hk]
theorem Rel.growW (h : Rel P prot w0 r S w) (os : Array Obj) : Rel P prot w0 r S (Go.Sort.grow w os):=
 h.below ⟨rfl,rfl,rfl,by simp [Go.Sort.grow],fun k hk=>by
  show (w.heap ++ os)[k]?=_
  rw [Array.getElem?_append_left hk]⟩
theorem Rel.aheadW (h : Rel P prot w0 r S w) (n : Nat) : Rel P prot w0 r S (Sort.ahead w n):=h.drawn _
theorem LR.ints {l l' : List Value} {L : List (Int × Int)} (h : LR P r l l') (hl : l=flat2 L) : l'=flat2 L:=by
 subst hl
 apply List.ext_getElem?
 intro t
 by_cases ht : t < L.length * 2
 ·have h1:=flat2_get L t ht
  obtain ⟨v',h2,h3⟩:=h.get? h1
  rw [h1,h2]
  congr 1
  rcases Nat.mod_two_eq_zero_or_one t with hm | hm
  ·rw [hm] at h3 ⊢
   exact h3.int_inv
  ·rw [hm] at h3 ⊢
   exact h3.int_inv
 ·have e : l'.length=L.length * 2:=by rw [← h.1,flat2_len]
  rw [List.getElem?_eq_none (by omega),List.getElem?_eq_none (by rw [flat2_len]; omega)]
theorem sp_get {c vs : List Value} {o : Nat} (h : o + vs.length≤c.length) (k : Nat) : (splice c o vs)[k]?=if k < o then c[k]? else if k < o + vs.length then vs[k - o]? else c[k]?:=by
 unfold splice
 have ht : (c.take o).length=o:=by simp; omega
 split
 ·rename_i h1
  rw [List.getElem?_append_left (by simp; omega),List.getElem?_append_left (by omega),List.getElem?_take_of_lt h1]
 ·rename_i h1
  split
  ·rename_i h2
   rw [List.getElem?_append_left (by simp; omega),List.getElem?_append_right (by omega),ht]
  ·rename_i h2
   rw [List.getElem?_append_right (by simp; omega),List.getElem?_drop]
   simp only [List.length_append,ht]
   congr 1; omega
theorem upd_ahead (w : World) (n b : Nat) (o : Obj) : (Sort.ahead w n).upd b o=Sort.ahead (w.upd b o) n:=rfl
theorem enc2_get (p : Int × Int) (t : Nat) (h : t < 2) : ∃ k n,(enc2 p)[t]! = .int k n:=by
 match t,h with
 | 0,_=>exact ⟨_,_,rfl⟩
 | 1,_=>exact ⟨_,_,rfl⟩
theorem sortV_ok {k g : Nat} (e : TypeId) (hC : SortC P k g) : ExtOK P (fun k' args S=>if k'=k then sortV g e args S else none):=by
 intro k' args S x h
 simp only at h
 split at h
 case isFalse=>cases h
 rename_i hk
 subst hk
 refine ⟨hC.fn,?_⟩
 intro prot w0 r w args' hR hl
 unfold sortV at h
 split at h
 case h_2=>cases h
 rename_i base n cap g' fa fb
 split at h
 case isFalse=>cases h
 rename_i hcond
 obtain ⟨rfl,rfl,rfl,hsz⟩:=hcond
 obtain ⟨a',l1,rfl,ha,hl1⟩:=hl.cons_inv
 obtain ⟨b',l2,rfl,hb,hl2⟩:=hl1.cons_inv
 have:=hl2.nil_inv; subst this
 obtain ⟨fa',fb',rfl,hfa,hfb⟩:=hb.func_inv
 have hfa0 : fa'=#[]:=by have:=hfa.1; apply Array.eq_empty_of_size_eq_zero; simpa using this.symm
 have hfb0 : fb'=#[]:=by have:=hfb.1; apply Array.eq_empty_of_size_eq_zero; simpa using this.symm
 subst hfa0
 subst hfb0
 have hvt : ∀ r' : Rho,VR P r' (.tuple #[]) (.tuple #[]):=fun r'=>.tuple _ _ rfl fun i v v' h=>by simp at h
 have hext : Ext r r S.next:=⟨fun _ _ h=>h,fun m _ h=>h⟩
 split at h
 ·-- nil
  split at h
  case isFalse=>cases h
  rename_i hn0
  cases h
  subst hn0
  obtain ⟨rfl,_,_⟩:=ha.sliceNil_inv
  refine (hC.none none 0 _ w).mono ?_
  rintro e w' ⟨rfl,rfl⟩
  exact ⟨r,_,rfl,hvt r,hext,Nat.le_refl _,hR⟩
 ·rename_i bl o
  split at h
  ·rename_i hn0
   cases h
   subst hn0
   obtain ⟨M,cap',x',hM,rfl,_⟩:=ha.slice_inv
   refine (hC.none (some ⟨M.b,x',none⟩) cap' _ w).mono ?_
   rintro e w' ⟨rfl,rfl⟩
   exact ⟨r,_,rfl,hvt r,hext,Nat.le_refl _,hR⟩
  rename_i hn0
  split at h
  case h_2=>cases h
  rename_i cs e' ex hgb
  split at h
  case isFalse=>cases h
  rename_i hc2
  obtain ⟨rfl,hle⟩:=hc2
  split at h
  case h_2=>cases h
  rename_i L hL
  cases h
  obtain ⟨M,cap',x',hM,rfl,hcap,hncap,hx'⟩:=ha.slice_inv
  obtain ⟨cc,fz,hblk,r1,r2,r3,r4,r5,r6,hw⟩:=hR.row hgb hM
  have hxx : x'=M.base + o:=by
   rcases hx' with h | h
   ·exact h
   ·omega
  subst hxx
  have hsl:=window (o:=o) (k:=n * 2) hw r2 hle
  have hfl:=unflat2_eq hL
  have hLn : L.length=n:=by have:=congrArg List.length hfl; rw [flat2_len,List.length_take,List.length_drop] at this; omega
  have hcc:=hsl.ints hfl
  have hH : HoldsK enc2 2 w M.b (M.base + o) L.toArray:=by
   intro j hj
   have hj' : j < L.length * 2:=by simpa using hj
   have hg:=flat2_get L j hj'
   rw [← hcc,List.getElem?_take_of_lt (by omega),List.getElem?_drop] at hg
   refine ⟨?_,?_⟩
   ·rw [cell_of hblk]
    have h2 : (flatK enc2 2 L.toArray)[j]! = (enc2 (L[j / 2]!))[j % 2]!:=by rw [get_flatK _ _ _ _ (by simpa using hj')]; simp
    rw [h2]
    simpa using hg
   ·rw [frozen_of hblk]
    rcases (r6 rfl).ok with h | h
    ·rw [h]
     by_cases h3 : fz.2≤M.base + o + j
     ·simp [Nat.not_lt.2 h3]
     ·simp [h3]
    ·have hjc : M.base + o + j < cc.size:=by have:=(List.getElem?_eq_some_iff.1 hg).1; simpa using this
     have : ¬ (fz.1≤M.base + o + j):=by omega
     simp [this]
  have hcall:=hC.all M.b (M.base + o) cap' L.toArray #[] w hH (lt_of_get hblk) (by simpa [hLn] using hsz) rfl
  simp only [List.size_toArray,hLn] at hcall
  refine hcall.mono ?_
  rintro e w' ⟨rfl,m,os,rfl⟩
  refine ⟨r,_,rfl,hvt r,hext,by simp,?_⟩
  refine Rel.growW ?_ os
  unfold putRowK putRow
  rw [mapBlock_upd (w:=Sort.ahead w m) hblk,upd_ahead]
  refine Rel.aheadW ?_ m
  refine hR.upd hgb rfl hM ?_ rfl
  simp only [ObjR]
  have hLl : (L.mergeSort le2).length=n:=by rw [List.length_mergeSort]; exact hLn
  refine ⟨trivial,r1,?_,r3,?_,r5,fun _=>?_,fun i v hv=>?_⟩
  ·rw [splice_len _ _ _ (by rw [flat2_len,hLl]; exact hle)]; exact r2
  ·simpa [putCells] using r4
  ·simpa [putCells] using r6 rfl
  ·have hfl2 : (flat2 (L.mergeSort le2)).length=n * 2:=by rw [flat2_len,hLl]
   have hsp : (splice cs o (flat2 (L.mergeSort le2)))[i]?=if i < o then cs[i]? else if i < o + n * 2 then (flat2 (L.mergeSort le2))[i - o]? else cs[i]?:=by
    have:=sp_get (c:=cs) (vs:=flat2 (L.mergeSort le2)) (o:=o) (by omega) i
    rw [hfl2] at this
    exact this
   rw [hsp] at hv
   have hold : ∀ u,cs[i]?=some u→∃ v',cc[M.base + i]?=some v'∧VR P r u v':=fun u hu=>by
    obtain ⟨v',k1,k2⟩:=hw.get? hu
    have hi : i < cs.length:=(List.getElem?_eq_some_iff.1 hu).1
    rw [List.getElem?_take_of_lt (by omega),List.getElem?_drop] at k1
    exact ⟨v',by simpa using k1,k2⟩
   unfold putCells
   rw [Array.getElem?_mapIdx]
   simp only [size_flatK,List.size_toArray,hLl]
   by_cases c1 : i < o
   ·rw [if_pos c1] at hv
    obtain ⟨v',k1,k2⟩:=hold v hv
    exact ⟨v',by rw [k1,Option.map_some,if_neg (by omega)],k2⟩
   ·rw [if_neg c1] at hv
    by_cases c2 : i < o + n * 2
    ·rw [if_pos c2,flat2_get _ _ (by omega)] at hv
     have hlt : M.base + i < cc.size:=by omega
     refine ⟨v,?_,?_⟩
     ·rw [Array.getElem?_eq_getElem hlt,Option.map_some,if_pos (by omega)]
      rw [show M.base + i - (M.base + o)=i - o from by omega,get_flatK _ _ _ _ (by simp [hLl]; omega)]
      simpa using hv
     ·obtain ⟨kk,nn,hkn⟩:=enc2_get ((L.mergeSort le2)[(i - o) / 2]!) ((i - o) % 2) (by omega)
      rw [hkn] at hv
      cases hv
      exact .int _ _
    ·rw [if_neg c2] at hv
     obtain ⟨v',k1,k2⟩:=hold v hv
     exact ⟨v',by rw [k1,Option.map_some,if_neg (by omega)],k2⟩
 ·cases h
end
end Go.Gx
