/-
  Whose index has changed (no program in sight).
-/
import Derived.Test.YtamljcdnphjgaaaPl
import Derived.Test.YtamljcdnphjgaaaGk
set_option linter.all false
set_option linter.deprecated false
set_option linter.unusedSimpArgs false
set_option linter.unusedVariables false
namespace Go.Gx.A
open Go.Gx
set_option linter.all false
def tri (old order : List Int) (x : Int) : Tri:=(x,ixI old x,ixI order x)
structure Sh (old order : List Int) (out : List Tri) (p : List Int) : Prop where
 nd : (out.map (·.1)).Nodup
 mem : ∀ e,e ∈ out ↔ ∃ x ∈ p,e=tri old order x∧ixI old x ≠ ixI order x
theorem Sh.nil (old order : List Int) : Sh old order [] []:=⟨List.nodup_nil,fun e=>by simp⟩
theorem Sh.skip {old order : List Int} {out : List Tri} {p : List Int} (h : Sh old order out p) {x : Int} (hx : ixI old x=ixI order x) : Sh old order out (p ++ [x]):=by
 refine ⟨h.nd,fun e=>?_⟩
 rw [h.mem]
 constructor
 ·rintro ⟨y,hy,h1⟩; exact ⟨y,List.mem_append_left _ hy,h1⟩
 ·rintro ⟨y,hy,h1,h2⟩
  rcases List.mem_append.1 hy with hy | hy
  ·exact ⟨y,hy,h1,h2⟩
  ·rw [List.mem_singleton.1 hy] at h2; exact absurd hx h2
theorem Sh.have {old order : List Int} {out : List Tri} {p : List Int} (h : Sh old order out p) {x : Int} (hx : tri old order x ∈ out) : Sh old order out (p ++ [x]):=by
 refine ⟨h.nd,fun e=>?_⟩
 constructor
 ·intro he
  obtain ⟨y,hy,h1⟩:=(h.mem e).1 he
  exact ⟨y,List.mem_append_left _ hy,h1⟩
 ·rintro ⟨y,hy,h1,h2⟩
  rcases List.mem_append.1 hy with hy | hy
  ·exact (h.mem e).2 ⟨y,hy,h1,h2⟩
  ·rw [List.mem_singleton.1 hy] at h1; rw [h1]; exact hx
theorem Sh.key {old order : List Int} {out : List Tri} {p : List Int} (h : Sh old order out p) {e : Tri} (he : e ∈ out) : e=tri old order e.1:=by
 obtain ⟨y,_,h1,_⟩:=(h.mem e).1 he
 rw [h1]; rfl
theorem Sh.add {old order : List Int} {out : List Tri} {p : List Int} (h : Sh old order out p) {x : Int} (hx : tri old order x ∉ out) (hne : ixI old x ≠ ixI order x) : Sh old order (out ++ [tri old order x]) (p ++ [x]):=by
 refine ⟨?_,fun e=>?_⟩
 ·rw [List.map_append,List.nodup_append]
  refine ⟨h.nd,by simp,fun a ha b hb=>?_⟩
  rw [List.map_singleton,List.mem_singleton] at hb
  obtain ⟨e,he,rfl⟩:=List.mem_map.1 ha
  intro e2
  have h1:=h.key he
  have e3 : e.1=x:=e2.trans hb
  rw [e3] at h1
  exact hx (by rw [← h1]; exact he)
 ·rw [List.mem_append,h.mem]
  constructor
  ·rintro (⟨y,hy,h1⟩ | h1)
   ·exact ⟨y,List.mem_append_left _ hy,h1⟩
   ·exact ⟨x,by simp,List.mem_singleton.1 h1,hne⟩
  ·rintro ⟨y,hy,h1,h2⟩
   rcases List.mem_append.1 hy with hy | hy
   ·exact .inl ⟨y,hy,h1,h2⟩
   ·rw [List.mem_singleton.1 hy] at h1; exact .inr (by rw [h1]; simp)
structure As3 (old order : List Int) (out : List Tri) (p : List Int) : Prop where
 asc : out.Pairwise fun a b=>a.1 < b.1
 mem : ∀ e,e ∈ out ↔ ∃ x ∈ p,e=tri old order x∧ixI old x ≠ ixI order x
theorem As3.nil (old order : List Int) : As3 old order [] []:=⟨List.Pairwise.nil,fun e=>by simp⟩
theorem As3.skip {old order : List Int} {out : List Tri} {p : List Int} (h : As3 old order out p) {x : Int} (hx : ixI old x=ixI order x) : As3 old order out (p ++ [x]):=by
 refine ⟨h.asc,fun e=>?_⟩
 rw [h.mem]
 constructor
 ·rintro ⟨y,hy,h1⟩; exact ⟨y,List.mem_append_left _ hy,h1⟩
 ·rintro ⟨y,hy,h1,h2⟩
  rcases List.mem_append.1 hy with hy | hy
  ·exact ⟨y,hy,h1,h2⟩
  ·rw [List.mem_singleton.1 hy] at h2; exact absurd hx h2
def plc (out : List Tri) (x : Int) (k : Nat) : Prop:=k ≤ out.length∧(∀ i (h : i < out.length),i < k→out[i].1 < x)∧(∀ h : k < out.length,¬ out[k].1 < x)
theorem As3.add {old order : List Int} {out : List Tri} {p : List Int} (h : As3 old order out p) {x : Int} (hx : x ∉ p) (hne : ixI old x ≠ ixI order x) {k : Nat} (hk : plc out x k) : As3 old order (out.take k ++ [tri old order x] ++ out.drop k) (p ++ [x]):=by
 obtain ⟨k1,k2,k3⟩:=hk
 have hsplit : out.take k ++ out.drop k=out:=List.take_append_drop k out
 have hlt : ∀ e ∈ out.take k,e.1 < x:=by
  intro e he
  obtain ⟨i,hi,rfl⟩:=List.getElem_of_mem he
  rw [List.getElem_take]
  have : i < k:=by simp at hi; omega
  exact k2 i (by simp at hi; omega) this
 have hge : ∀ e ∈ out.drop k,x < e.1:=by
  intro e he
  obtain ⟨i,hi,rfl⟩:=List.getElem_of_mem he
  rw [List.getElem_drop]
  have hi' : k + i < out.length:=by simp at hi; omega
  have h1:=k3 (by omega)
  have h2 : out[k].1 ≤ out[k + i].1:=by
   by_cases h0 : i=0
   ·subst h0; exact Int.le_refl _
   ·have:=List.pairwise_iff_getElem.1 h.asc k (k + i) (by omega) hi' (by omega)
    omega
  have h3 : out[k + i].1 ≠ x:=by
   intro e
   obtain ⟨y,hy,g1,_⟩:=(h.mem out[k + i]).1 (List.getElem_mem hi')
   rw [g1] at e
   have : y=x:=e
   exact hx (this ▸ hy)
  omega
 have hasc:=h.asc
 rw [← hsplit,List.pairwise_append] at hasc
 refine ⟨?_,fun e=>?_⟩
 ·rw [List.pairwise_append,List.pairwise_append]
  refine ⟨⟨hasc.1,List.pairwise_singleton _ _,fun a ha b hb=>?_⟩,hasc.2.1,fun a ha b hb=>?_⟩
  ·rw [List.mem_singleton.1 hb]; exact hlt a ha
  ·rcases List.mem_append.1 ha with ha | ha
   ·exact hasc.2.2 a ha b hb
   ·rw [List.mem_singleton.1 ha]; exact hge b hb
 ·have h1 : e ∈ out.take k ++ [tri old order x] ++ out.drop k ↔ e ∈ out ∨ e=tri old order x:=by
   conv=>rhs; rw [← hsplit]
   simp only [List.mem_append,List.mem_singleton]
   constructor
   ·rintro ((h | h) | h) <;> simp [h]
   ·rintro ((h | h) | h) <;> simp [h]
  rw [h1,h.mem]
  constructor
  ·rintro (⟨y,hy,g1⟩ | g)
   ·exact ⟨y,List.mem_append_left _ hy,g1⟩
   ·exact ⟨x,by simp,g,hne⟩
  ·rintro ⟨y,hy,g1,g2⟩
   rcases List.mem_append.1 hy with hy | hy
   ·exact .inl ⟨y,hy,g1,g2⟩
   ·rw [List.mem_singleton.1 hy] at g1; exact .inr g1
theorem asc3_unique : ∀ {l m : List Tri},(l.Pairwise fun a b=>a.1 < b.1)→(m.Pairwise fun a b=>a.1 < b.1)→(∀ x,x ∈ l ↔ x ∈ m)→l=m
 | [],[],_,_,_=>rfl
 | [],b :: m,_,_,h=>by have:=(h b).2 (by simp); simp at this
 | a :: l,[],_,_,h=>by have:=(h a).1 (by simp); simp at this
 | a :: l,b :: m,hl,hm,h=>by
  rw [List.pairwise_cons] at hl hm
  have hab : a=b:=by
   rcases List.mem_cons.1 ((h a).1 (by simp)) with h1 | h1
   ·exact h1
   ·rcases List.mem_cons.1 ((h b).2 (by simp)) with h2 | h2
    ·exact h2.symm
    ·have:=hl.1 b h2; have:=hm.1 a h1; omega
  subst hab
  congr 1
  refine asc3_unique hl.2 hm.2 fun x=>?_
  constructor
  ·intro hx
   rcases List.mem_cons.1 ((h x).1 (by simp [hx])) with h1 | h1
   ·subst h1; have:=hl.1 x hx; omega
   ·exact h1
  ·intro hx
   rcases List.mem_cons.1 ((h x).2 (by simp [hx])) with h1 | h1
   ·subst h1; have:=hm.1 x hx; omega
   ·exact h1
theorem sh_sorted {old order : List Int} {out ref : List Tri} {p q : List Int} (h : Sh old order out p) (k : As3 old order ref q) (hpq : ∀ x,x ∈ p ↔ x ∈ q) : out.mergeSort le3=ref:=by
 refine asc3_unique ?_ k.asc fun e=>?_
 ·have h1 : (out.mergeSort le3).Pairwise (fun a b=>le3 a b=true):=List.pairwise_mergeSort (fun a b c h k=>by unfold le3 at *; simp only [decide_eq_true_eq] at *; omega) (fun a b=>by unfold le3; simp only [Bool.or_eq_true,decide_eq_true_eq]; omega) out
  have h20 : ((out.mergeSort le3).map Prod.fst).Nodup:=((List.mergeSort_perm out le3).map Prod.fst).nodup_iff.2 h.nd
  have h2 : (out.mergeSort le3).Pairwise fun a b=>a.1 ≠ b.1:=List.pairwise_map.1 h20
  refine List.Pairwise.imp (R:=fun a b=>le3 a b=true∧a.1 ≠ b.1) (fun {a b} h=>?_) (List.pairwise_and_iff.2 ⟨h1,h2⟩)
  obtain ⟨h3,h4⟩:=h
  unfold le3 at h3
  simp only [decide_eq_true_eq] at h3
  omega
 ·rw [(List.mergeSort_perm out le3).mem_iff,h.mem,k.mem]
  constructor
  ·rintro ⟨x,hx,g⟩; exact ⟨x,(hpq x).1 hx,g⟩
  ·rintro ⟨x,hx,g⟩; exact ⟨x,(hpq x).2 hx,g⟩
def fresh (a : List Int) (l : List Int) : List Int:=l.foldl (fun a x=>if x ∈ a then a else a ++ [x]) a
theorem fresh_spec : ∀ (l a : List Int),a.Nodup→(fresh a l).Nodup∧(∀ x,x ∈ fresh a l ↔ x ∈ a ∨ x ∈ l)∧(fresh a l).length ≤ a.length + l.length
 | [],a,h=>⟨h,fun x=>by simp [fresh],by simp [fresh]⟩
 | y :: l,a,h=>by
  by_cases hy : y ∈ a
  ·have e : fresh a (y :: l)=fresh a l:=by simp [fresh,hy]
   obtain ⟨h1,h2,h3⟩:=fresh_spec l a h
   rw [e]
   refine ⟨h1,fun x=>?_,by simp; omega⟩
   rw [h2]
   simp only [List.mem_cons]
   constructor
   ·rintro (h | h) <;> simp [h]
   ·rintro (h | rfl | h)
    ·exact .inl h
    ·exact .inl hy
    ·exact .inr h
  ·have e : fresh a (y :: l)=fresh (a ++ [y]) l:=by simp [fresh,hy]
   have hn : (a ++ [y]).Nodup:=by
    rw [List.nodup_append]
    refine ⟨h,by simp,fun b hb c hc=>?_⟩
    rw [List.mem_singleton.1 hc]
    intro e
    exact hy (e ▸ hb)
   obtain ⟨h1,h2,h3⟩:=fresh_spec l (a ++ [y]) hn
   rw [e]
   refine ⟨h1,fun x=>?_,by simp at h3 ⊢; omega⟩
   rw [h2]
   simp only [List.mem_append,List.mem_cons,List.not_mem_nil,or_false,or_assoc]
theorem fresh_snoc (a l : List Int) (x : Int) : fresh a (l ++ [x])=if x ∈ fresh a l then fresh a l else fresh a l ++ [x]:=by
 unfold fresh
 rw [List.foldl_append]
 rfl
end Go.Gx.A
