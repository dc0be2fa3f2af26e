/-
  The offence of an order, summed over the arrows (no program in sight).
-/
import Derived.Test.YtnhaainnhmmbfaaGreatPl
set_option linter.all false
set_option linter.deprecated false
namespace Go.Gx.Z
def wt (l : List Arw) (x y : Int) : Int:=match l.find? (fun a=>decide (a.f=x∧a.t=y)) with
 | some a=>a.w
 | none=>0
theorem arrsOk_some {N : Int} {y : Arw} : ∀ {l : List Arw},arrsOk N (some y) l=true→(∀ x∈l,arrOk N x=true∧ltA y x=true)∧l.Pairwise fun x z=>ltA x z=true:=by
 intro l
 induction l generalizing y with
 | nil=>intro _; exact ⟨by simp,.nil⟩
 | cons x r ih=>
  intro h
  simp only [arrsOk,Bool.and_eq_true] at h
  obtain ⟨⟨h1,h2⟩,h3⟩:=h
  obtain ⟨g1,g2⟩:=ih h3
  refine ⟨fun z hz=>?_,List.pairwise_cons.2 ⟨fun z hz=>(g1 z hz).2,g2⟩⟩
  rcases List.mem_cons.1 hz with rfl | hz
  ·exact ⟨h1,h2⟩
  ·refine ⟨(g1 z hz).1,?_⟩
   have:=(g1 z hz).2
   unfold ltA at h2 this ⊢
   simp only [decide_eq_true_eq] at h2 this ⊢
   omega
theorem arrsOk_none {N : Int} {l : List Arw} (h : arrsOk N none l=true) : (∀ x∈l,arrOk N x=true)∧l.Pairwise fun x z=>ltA x z=true:=by
 cases l with
 | nil=>exact ⟨by simp,.nil⟩
 | cons x r=>
  simp only [arrsOk,Bool.and_eq_true] at h
  obtain ⟨g1,g2⟩:=arrsOk_some h.2
  refine ⟨fun z hz=>?_,List.pairwise_cons.2 ⟨fun z hz=>(g1 z hz).2,g2⟩⟩
  rcases List.mem_cons.1 hz with rfl | hz
  ·exact h.1
  ·exact (g1 z hz).1
theorem arrOk_spec {N : Int} {x : Arw} (h : arrOk N x=true) : 0≤x.f∧x.f < N∧0≤x.t∧x.t < N∧x.f≠x.t∧1≤x.w∧x.w≤1000:=by
 unfold arrOk at h
 simp only [Bool.and_eq_true,decide_eq_true_eq] at h
 omega
theorem wt_bd {N : Int} {l : List Arw} (h : ∀ x∈l,arrOk N x=true) (x y : Int) : 0≤wt l x y∧wt l x y≤1000:=by
 unfold wt
 split
 ·rename_i a ha
  have:=arrOk_spec (h a (List.mem_of_find?_eq_some ha))
  omega
 ·omega
theorem arrs_len' {N : Int} (hN : N≤24) : ∀ {l : List Arw} {y : Arw},arrOk N y=true→arrsOk N (some y) l=true→(l.length : Int) + (24 * y.f + y.t)≤575
 | [],y,h,_=>by have:=arrOk_spec h; simp; omega
 | x :: l,y,h,h2=>by
  simp only [arrsOk,Bool.and_eq_true] at h2
  have:=arrs_len' hN h2.1.1 h2.2
  have h3:=h2.1.2
  have:=arrOk_spec h2.1.1
  have:=arrOk_spec h
  unfold ltA at h3
  simp only [decide_eq_true_eq] at h3
  simp only [List.length_cons]
  omega
theorem arrs_len {N : Int} (hN : N≤24) {l : List Arw} (h : arrsOk N none l=true) : l.length≤576:=by
 cases l with
 | nil=>simp
 | cons x l=>
  simp only [arrsOk,Bool.and_eq_true] at h
  have:=arrs_len' hN h.1 h.2
  have:=arrOk_spec h.1
  simp only [List.length_cons]; omega
end Go.Gx.Z
