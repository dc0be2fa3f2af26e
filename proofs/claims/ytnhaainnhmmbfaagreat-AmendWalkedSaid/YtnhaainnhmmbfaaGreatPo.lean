/-
  The offence of an order, summed over the arrows (no program in sight).
-/
import Derived.Test.YtnhaainnhmmbfaaGreatPl
set_option linter.all false
set_option linter.deprecated false
namespace Go.Gx.Z
def wt (l : List Arw) (x y : Int) : Int:=match l.find? (fun a=>decide (a.f=x∧a.t=y)) with
 | some a=>a.w
 | none=>0
theorem arrsOk_some {N : Int} {y : Arw} : ∀ {l : List Arw},arrsOk N (some y) l=true→(∀ x∈l,arrOk N x=true∧ltA y x=true)∧l.Pairwise fun x z=>ltA x z=true:=by
 intro l
 induction l generalizing y with
 | nil=>intro _; exact ⟨by simp,.nil⟩
 | cons x r ih=>
  intro h
  simp only [arrsOk,Bool.and_eq_true] at h
  obtain ⟨⟨h1,h2⟩,h3⟩:=h
  obtain ⟨g1,g2⟩:=ih h3
  refine ⟨fun z hz=>?_,List.pairwise_cons.2 ⟨fun z hz=>(g1 z hz).2,g2⟩⟩
  rcases List.mem_cons.1 hz with rfl | hz
  ·exact ⟨h1,h2⟩
  ·refine ⟨(g1 z hz).1,?_⟩
   have:=(g1 z hz).2
   unfold ltA at h2 this ⊢
   simp only [decide_eq_true_eq] at h2 this ⊢
   omega
theorem arrsOk_none {N : Int} {l : List Arw} (h : arrsOk N none l=true) : (∀ x∈l,arrOk N x=true)∧l.Pairwise fun x z=>ltA x z=true:=by
 cases l with
 | nil=>exact ⟨by simp,.nil⟩
 | cons x r=>
  simp only [arrsOk,Bool.and_eq_true] at h
  obtain ⟨g1,g2⟩:=arrsOk_some h.2
  refine ⟨fun z hz=>?_,List.pairwise_cons.2 ⟨fun z hz=>(g1 z hz).2,g2⟩⟩
  rcases List.mem_cons.1 hz with rfl | hz
  ·exact h.1
  ·exact (g1 z hz).1
theorem arrOk_spec {N : Int} {x : Arw} (h : arrOk N x=true) : 0≤x.f∧x.f < N∧0≤x.t∧x.t < N∧x.f≠x.t∧1≤x.w∧x.w≤1000:=by
 unfold arrOk at h
 simp only [Bool.and_eq_true,decide_eq_true_eq] at h
 omega
theorem wt_cons {a : Arw} {r : List Arw} (h : (a :: r).Pairwise fun x z=>ltA x z=true) (x y : Int) : wt (a :: r) x y=(if a.f=x∧a.t=y then a.w else 0) + wt r x y:=by
 unfold wt
 rw [List.find?_cons]
 by_cases hc : a.f=x∧a.t=y
 ·have hn : r.find? (fun a=>decide (a.f=x∧a.t=y))=none:=by
   rw [List.find?_eq_none]
   intro b hb
   have:=(List.pairwise_cons.1 h).1 b hb
   unfold ltA at this
   simp only [decide_eq_true_eq] at this ⊢
   omega
  rw [hn]
  simp [hc]
 ·simp [hc]
theorem wt_bd {N : Int} {l : List Arw} (h : ∀ x∈l,arrOk N x=true) (x y : Int) : 0≤wt l x y∧wt l x y≤1000:=by
 unfold wt
 split
 ·rename_i a ha
  have:=arrOk_spec (h a (List.mem_of_find?_eq_some ha))
  omega
 ·omega
theorem arrs_len' {N : Int} (hN : N≤24) : ∀ {l : List Arw} {y : Arw},arrOk N y=true→arrsOk N (some y) l=true→(l.length : Int) + (24 * y.f + y.t)≤575
 | [],y,h,_=>by have:=arrOk_spec h; simp; omega
 | x :: l,y,h,h2=>by
  simp only [arrsOk,Bool.and_eq_true] at h2
  have:=arrs_len' hN h2.1.1 h2.2
  have h3:=h2.1.2
  have:=arrOk_spec h2.1.1
  have:=arrOk_spec h
  unfold ltA at h3
  simp only [decide_eq_true_eq] at h3
  simp only [List.length_cons]
  omega
theorem arrs_len {N : Int} (hN : N≤24) {l : List Arw} (h : arrsOk N none l=true) : l.length≤576:=by
 cases l with
 | nil=>simp
 | cons x l=>
  simp only [arrsOk,Bool.and_eq_true] at h
  have:=arrs_len' hN h.1 h.2
  have:=arrOk_spec h.1
  simp only [List.length_cons]; omega
def dlt (f t w : Int) (x y : Int) : Int:=if f=x∧t=y then w else 0
theorem isum_add {α : Type} (p q : α→Int) : ∀ (l : List α),isum (l.map fun x=>p x + q x)=isum (l.map p) + isum (l.map q)
 | []=>rfl
 | a :: l=>by simp only [List.map_cons,isum,isum_add p q l]; omega
theorem offR_add (p q : Int→Int→Int) : ∀ (l ah : List Int),offR (fun x y=>p x y + q x y) ah l=offR p ah l + offR q ah l
 | [],_=>rfl
 | x :: l,ah=>by simp only [offR,isum_add,offR_add p q l]; omega
theorem offR_zero : ∀ (l ah : List Int),offR (fun _ _=>0) ah l=0
 | [],_=>rfl
 | x :: l,ah=>by
  simp only [offR,offR_zero l]
  have : ∀ ah : List Int,isum (ah.map fun _=>0)=0:=fun ah=>by
   induction ah with
   | nil=>rfl
   | cons a l ih=>simp only [List.map_cons,isum,ih]; rfl
  rw [this]; rfl
theorem isum_dlt (t w : Int) : ∀ (ah : List Int),ah.Nodup→isum (ah.map fun y=>if t=y then w else 0)=if t∈ah then w else 0
 | [],_=>by simp [isum]
 | a :: ah,h=>by
  rw [List.nodup_cons] at h
  simp only [List.map_cons,isum,isum_dlt t w ah h.2,List.mem_cons]
  by_cases hc : t=a
  ·subst hc
   simp [h.1]
  ·simp [hc]
theorem offR_dlt (f t w : Int) : ∀ (l ah : List Int),(ah ++ l).Nodup→offR (dlt f t w) ah l=if f∈l∧t∈ah ++ l.takeWhile (fun x=>decide (x≠f)) then w else 0
 | [],ah,_=>by simp [offR]
 | x :: l,ah,h=>by
  have ih:=offR_dlt f t w l (ah ++ [x]) (by simpa using h)
  simp only [offR,ih]
  have hah : ah.Nodup:=by rw [List.nodup_append] at h; exact h.1
  by_cases hx : f=x
  ·subst hx
   have hfl : f∉l:=by
    rw [List.nodup_append,List.nodup_cons] at h
    exact h.2.1.1
   have e1 : ah.map (dlt f t w f)=ah.map fun y=>if t=y then w else 0:=by
    apply List.map_congr_left
    intro y _
    simp [dlt]
   rw [e1,isum_dlt t w ah hah]
   simp [hfl]
  ·have e1 : isum (ah.map (dlt f t w x))=0:=by
    have : ah.map (dlt f t w x)=ah.map fun _=>0:=by
     apply List.map_congr_left
     intro y _
     simp [dlt,hx]
    rw [this]
    clear this ih hah h
    induction ah with
    | nil=>rfl
    | cons a l ih=>simp only [List.map_cons,isum,ih]; rfl
   rw [e1]
   have hx' : ¬ x=f:=fun e=>hx e.symm
   simp [hx,hx']
theorem ix_lt_iff {f t : Int} : ∀ {l : List Int},f∈l→t∈l→(t∈l.takeWhile (fun x=>decide (x≠f))↔ixI l t < ixI l f)
 | [],h,_=>by simp at h
 | x :: l,hf,ht=>by
  rw [ixI_cons,ixI_cons]
  have gf:=ixI_ge l f
  have gt:=ixI_ge l t
  by_cases h1 : x=f
  ·subst h1
   simp only [List.takeWhile_cons,ne_eq,not_true_eq_false,decide_false,Bool.false_eq_true,if_false,List.not_mem_nil,if_true,false_iff]
   by_cases h2 : x=t
   ·simp [h2]
   ·have ht' : t∈l:=by
     rcases List.mem_cons.1 ht with h | h
     ·exact absurd h.symm h2
     ·exact h
    have:=ixI_mem.2 ht'
    rw [if_neg h2,if_neg (by omega)]; omega
  ·have hf' : f∈l:=by
    rcases List.mem_cons.1 hf with h | h
    ·exact absurd h.symm h1
    ·exact h
   have nf : ¬ ixI l f < 0:=by have:=ixI_mem.2 hf'; omega
   simp only [List.takeWhile_cons,ne_eq,h1,not_false_eq_true,decide_true,if_true,if_false,nf,List.mem_cons]
   by_cases h2 : x=t
   ·simp only [h2,true_or,if_true,true_iff]
    have:=ixI_mem.2 hf'
    omega
   ·have ht' : t∈l:=by
     rcases List.mem_cons.1 ht with h | h
     ·exact absurd h.symm h2
     ·exact h
    have nt : ¬ ixI l t < 0:=by have:=ixI_mem.2 ht'; omega
    have h2' : ¬ t=x:=fun e=>h2 e.symm
    simp only [h2,h2',false_or,if_false,nt]
    have:=ix_lt_iff hf' ht'
    simp only [ne_eq] at this
    rw [this]; omega
def pOff (l : List Arw) (order : List Int) : Int:=isum ((l.filter fun a=>decide (ixI order a.t < ixI order a.f)).map (·.w))
theorem pOff_eq : ∀ {l : List Arw} {order : List Int},l.Pairwise (fun x z=>ltA x z=true)→order.Nodup→(∀ a∈l,a.f∈order∧a.t∈order)→pOff l order=offR (wt l) [] order
 | [],order,_,_,_=>by
  have : wt []=fun _ _=>0:=by funext x y; rfl
  rw [this,offR_zero]; rfl
 | a :: l,order,h,hn,hm=>by
  have ih:=pOff_eq (List.pairwise_cons.1 h).2 hn fun b hb=>hm b (by simp [hb])
  have e : wt (a :: l)=fun x y=>dlt a.f a.t a.w x y + wt l x y:=by funext x y; exact wt_cons h x y
  rw [e,offR_add,offR_dlt _ _ _ _ _ (by simpa using hn),← ih]
  obtain ⟨m1,m2⟩:=hm a (by simp)
  have:=ix_lt_iff m1 m2
  rw [List.nil_append]
  unfold pOff
  rw [List.filter_cons]
  by_cases hc : ixI order a.t < ixI order a.f
  ·rw [if_pos (by simpa using hc),if_pos ⟨m1,this.2 hc⟩]
   simp only [List.map_cons,isum]
  ·rw [if_neg (by simpa using hc),if_neg (fun g=>hc (this.1 g.2))]
   omega
end Go.Gx.Z
