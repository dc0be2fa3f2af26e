/-
  An argument that is a slice of steps.
-/
import Derived.Test.YtnhaainnhmmbfaaGreatQn
set_option linter.all false
set_option linter.deprecated false
namespace Go.Gx.Z
open Go.Gx Go.Proofs
set_option maxRecDepth 100000
theorem u5 : Tryz.prog.underlying 5=some (.int .u8):=by kernel_rfl
theorem n5 : Tryz.prog.cellsOf 5=1:=by kernel_rfl
theorem u87 : Tryz.prog.underlying 26=some (.slice 38):=by kernel_rfl
theorem n89 : Tryz.prog.cellsOf 38=4:=by kernel_rfl
theorem fa89 : fieldsAt Tryz.prog 38=[(5,0),(3,1),(24,2)]:=by kernel_rfl
theorem sts_of {S : AS} {d : Nat} {v : Value} (hv : S.Valid) (h : Ty Tryz.prog S (d + 6) 26 [v]) : ∃ L,Sts S v L:=by
 obtain ⟨ls,h1,h2,h3⟩:=ty_slice u87 n89 (by omega) hv h
 have : ∃ L : List (Stp × Value),ls=L.map stC∧∀ x∈L,As S x.2 x.1.ar∧-9223372036854775808≤x.1.n∧x.1.n≤9223372036854775807:=by
  clear h1 h2
  induction ls with
  | nil=>exact ⟨[],rfl,by simp⟩
  | cons x xs ih=>
   obtain ⟨l,rfl,hl⟩:=ih fun y hy=>h3 y (by simp [hy])
   obtain ⟨g1,g2⟩:=ty_struct fa89 (by simp) (h3 x (by simp))
   rw [n89] at g1
   match x,g1 with
   | [a,b,c,e],_=>
    have ga:=g2 (5,0) (by simp)
    have gb:=g2 (3,1) (by simp)
    have gc:=g2 (24,2) (by simp)
    simp only [n3,n5,n24] at ga gb gc
    obtain ⟨k0,rfl,_⟩:=ty_int u5 ga
    obtain ⟨k1,rfl,_⟩:=ty_int u3 gb
    obtain ⟨q1,q2⟩:=ty_struct fa24 (by simp) gc
    have qa:=q2 (3,0) (by simp)
    have qb:=q2 (22,1) (by simp)
    simp only [n22,n3] at qa qb
    obtain ⟨k2,rfl,w2⟩:=ty_int u3 qa
    obtain ⟨m,hm⟩:=as_of hv qb
    have:=wf_i64 w2
    exact ⟨(⟨k0,k1,k2,m⟩,e) :: l,rfl,fun x hx=>by
     rcases List.mem_cons.1 hx with rfl | hx
     ·exact ⟨hm,by simp only; omega,by simp only; omega⟩
     ·exact hl x hx⟩
 obtain ⟨L,rfl,hL⟩:=this
 exact ⟨L,h1,by rw [List.length_map] at h2; have:=h2; unfold maxLen at this; omega,hL⟩
theorem rel_of2 {S : AS} {d : Nat} {v : Value} (hv : S.Valid) (h : TyV Tryz.prog S (d + 4) 24 v) : ∃ N l va,v=.agg #[.int .i64 N,va]∧As S va l∧-9223372036854775808≤N:=by
 obtain ⟨cs,rfl,hc⟩:=tyV_struct fa24 (by simp) h
 obtain ⟨k1,k2⟩:=ty_struct fa24 (by simp) hc
 rw [n24] at k1
 match cs,k1 with
 | [a,b],_=>
  have ka:=k2 (3,0) (by simp)
  have kb:=k2 (22,1) (by simp)
  simp only [n22,n3] at ka kb
  obtain ⟨n0,rfl,w0⟩:=ty_int u3 ka
  obtain ⟨m,hm⟩:=as_of hv kb
  have:=wf_i64 w0
  exact ⟨n0,m,b,rfl,hm,by omega⟩
end Go.Gx.Z
