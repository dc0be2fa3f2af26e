/-
  Orders that are told, and best orders (plain).
-/
import Derived.Test.YtamljcdnphjgaaaPu
set_option linter.all false
set_option linter.deprecated false
set_option linter.unusedSimpArgs false
set_option linter.unusedVariables false
namespace Go.Gx.A
open Go.Gx Go.Proofs
set_option maxRecDepth 100000
theorem amd_cost {c : Cg} (cok : CgOk c) : c.rcost c.amd.order=c.goal.total:=by
 obtain ⟨q,q1,q2,q3⟩:=mem_bests.1 (List.mem_of_getElem? (bests_head c))
 show c.rcost (c.bests.headD [])=_
 rw [q3,order_cost cok q1,q2]

set_option maxHeartbeats 2000000
theorem amd_mem {c : Cg} (cok : CgOk c) {x : Int} : x∈c.amd.order↔0≤x∧x < c.n:=by
 obtain ⟨q,q1,q2,q3⟩:=mem_bests.1 (List.mem_of_getElem? (bests_head c))
 show x∈c.bests.headD []↔_
 rw [q3]
 exact order_mem cok (mem_all.1 q1).1 (mem_all.1 q1).2


def Ao (S : AS) (v : Value) (l : List Arw) : Prop:=SlAt S 181 v (l.map Arw.cells)
theorem arw_uni (l : List Arw) : Uni 4 (l.map Arw.cells):=fun x hx=>by
 obtain ⟨a,_,rfl⟩:=List.mem_map.1 hx
 rfl
theorem Ao.stays {S S' : AS} {v : Value} {l : List Arw} (h : Ao S v l) {fp : List Nat} (hs : Same S S' fp) (hd : ∀ m∈ownsOf v,m∉fp) : Ao S' v l:=SlAt.stays h hs hd
theorem arw_flen : ∀ (l : List Arw),(l.map Arw.cells).flatten.length=l.length * 4
 | []=>rfl
 | a :: l=>by
  have:=arw_flen l
  simp only [List.map_cons,List.flatten_cons,List.length_append,List.length_cons]
  rw [this]
  simp [Arw.cells]
  omega
theorem Ao.as {S : AS} {v : Value} {l : List Arw} (h : Ao S v l) (hl : l.length≤100000) : As S v l:=by
 refine ⟨?_,by omega⟩
 rcases h with ⟨rfl,hn⟩ | ⟨p,ex,rfl,h2,h3⟩
 ·have : l=[]:=List.map_eq_nil_iff.1 hn
  subst this
  exact ⟨⟨none,0,rfl⟩,rfl,arw_uni [],by simp [ownsOf]⟩
 ·refine ⟨⟨_,_,rfl⟩,?_,arw_uni l,by simpa [ownsOf] using h3⟩
  have hf:=arw_flen l
  unfold srcCells
  simp only [h2,List.length_map]
  by_cases h0 : l.length * 4=0
  ·rw [if_pos h0]
   have : l=[]:=List.length_eq_zero_iff.1 (by omega)
   subst this
   rfl
  ·rw [if_neg h0,if_pos (by omega),List.drop_zero,← hf,List.take_length]
def Prs (S : AS) (v : Value) (P : List (Int × Int)) : Prop:=Ps S 2 v (P.map fun p=>[.int .i64 p.1,.int .i64 p.2])
end Go.Gx.A
