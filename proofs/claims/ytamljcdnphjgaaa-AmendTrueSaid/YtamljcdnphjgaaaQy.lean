/-
  Arguments: amendments and proofs.
-/
import Derived.Test.YtamljcdnphjgaaaPb
import Derived.Test.YtamljcdnphjgaaaQb
set_option linter.all false
set_option linter.deprecated false
set_option linter.unusedSimpArgs false
set_option linter.unusedVariables false
namespace Go.Gx.A
open Go.Gx Go.Proofs
set_option maxRecDepth 100000
set_option linter.all false
theorem u48 : Try.prog.underlying 48=some (.slice 131):=by kernel_rfl
theorem n48 : Try.prog.cellsOf 48=1:=by kernel_rfl
theorem n50 : Try.prog.cellsOf 50=1:=by kernel_rfl
theorem n44 : Try.prog.cellsOf 44=4:=by kernel_rfl
theorem n131 : Try.prog.cellsOf 131=4:=by kernel_rfl
theorem fa131 : fieldsAt Try.prog 131=[(3,0),(3,1),(3,2),(3,3)]:=by kernel_rfl
theorem fa50 : fieldsAt Try.prog 50=[(48,0)]:=by kernel_rfl
theorem fa44 : fieldsAt Try.prog 44=[(25,0),(3,1),(3,2),(25,3)]:=by kernel_rfl
theorem bnds_of {S : AS} {d : Nat} {v : Value} (hv : S.Valid) (h : Ty Try.prog S (d + 3) 48 [v]) : ∃ P : List Bnd,Bs S v P:=by
 obtain ⟨ls,h1,h2,h3⟩:=ty_slice u48 n131 (by omega) hv h
 have : ∃ P : List Bnd,ls=P.map q4C:=by
  clear h1 h2
  induction ls with
  | nil=>exact ⟨[],rfl⟩
  | cons x xs ih=>
   obtain ⟨l,rfl⟩:=ih fun y hy=>h3 y (by simp [hy])
   obtain ⟨g1,g2⟩:=ty_struct fa131 (by simp) (h3 x (by simp))
   rw [n131] at g1
   match x,g1 with
   | [a,b,c,e],_=>
    have ga:=g2 (3,0) (by simp)
    have gb:=g2 (3,1) (by simp)
    have gc:=g2 (3,2) (by simp)
    have gd:=g2 (3,3) (by simp)
    simp only [n3] at ga gb gc gd
    obtain ⟨n0,rfl,_⟩:=ty_int u3 ga
    obtain ⟨n1,rfl,_⟩:=ty_int u3 gb
    obtain ⟨n2,rfl,_⟩:=ty_int u3 gc
    obtain ⟨n3,rfl,_⟩:=ty_int u3 gd
    exact ⟨(n0,n1,n2,n3) :: l,rfl⟩
 obtain ⟨P,rfl⟩:=this
 exact ⟨P,h1,by rw [List.length_map] at h2; exact h2⟩
theorem proof_of {S : AS} {d : Nat} {v : Value} (hv : S.Valid) (h : TyV Try.prog S (d + 4) 50 v) : ∃ w P,v=.agg #[w]∧Bs S w P:=by
 obtain ⟨cs,rfl,hc⟩:=tyV_struct fa50 (by simp) h
 obtain ⟨k1,k2⟩:=ty_struct fa50 (by simp) hc
 rw [n50] at k1
 match cs,k1 with
 | [a],_=>
  have ka:=k2 (48,0) (by simp)
  simp only [n48] at ka
  obtain ⟨P,hP⟩:=bnds_of hv ka
  exact ⟨a,P,rfl,hP⟩
theorem amd_of {S : AS} {d : Nat} {v : Value} (hv : S.Valid) (h : TyV Try.prog S (d + 4) 44 v) : ∃ A va k,v=Amd.val A va k∧AmAt S va k A:=by
 obtain ⟨cs,rfl,hc⟩:=tyV_struct fa44 (by simp) h
 obtain ⟨k1,k2⟩:=ty_struct fa44 (by simp) hc
 rw [n44] at k1
 match cs,k1 with
 | [a,b,c,e],_=>
  have ka:=k2 (25,0) (by simp)
  have kb:=k2 (3,1) (by simp)
  have kc:=k2 (3,2) (by simp)
  have kd:=k2 (25,3) (by simp)
  simp only [n25,n3] at ka kb kc kd
  obtain ⟨n0,rfl,w0⟩:=ty_int u3 kb
  obtain ⟨n1,rfl,w1⟩:=ty_int u3 kc
  obtain ⟨l,hl,_,hb⟩:=is_of u25 u3 n3 hv ka
  obtain ⟨m,hm,_,hb2⟩:=is_of u25 u3 n3 hv kd
  exact ⟨⟨l,n0,n1,m⟩,a,e,rfl,hl,hm⟩
end Go.Gx.A
