/-
  Orders that are told, and best orders (plain).
-/
import Derived.Test.YtamljcdnphjgaaaPq
import Derived.Test.YtamljcdnphjgaaaPt
import Derived.Test.YtamljcdnphjgaaaPu
import Derived.Test.YtamljcdnphjgaaaPn
set_option linter.all false
set_option linter.deprecated false
set_option linter.unusedSimpArgs false
set_option linter.unusedVariables false
namespace Go.Gx.A
open Go.Gx Go.Proofs
set_option maxRecDepth 100000
set_option linter.all false
theorem valid_order {c : Cg} (cok : CgOk c) {o : List Int} (ho : ordOk c.n o=true) (ht : o.take c.passed=c.front) : ∃ q ∈ c.goal.all,o=c.order q:=by
 obtain ⟨h1,h2,h3⟩:=ordOk_iff.1 ho
 have hsp : o=c.front ++ o.drop c.passed:=by rw [← ht,List.take_append_drop]
 have hlf:=len_free cok
 have hdl : (o.drop c.passed).length=c.free.length:=by
  have:=congrArg List.length hsp
  rw [List.length_append] at this
  omega
 have hnd : (o.drop c.passed).Nodup:=h2.sublist (List.drop_sublist _ _)
 have hfree : ∀ x ∈ o.drop c.passed,x ∈ c.free:=fun x hx=>by
  have hxo : x ∈ o:=List.mem_of_mem_drop hx
  have hb:=h3 x hxo
  have hnf : x ∉ c.front:=fun hf=>by
   rw [hsp,List.nodup_append] at h2
   exact h2.2.2 x hf x hx rfl
  unfold Cg.free
  rw [List.mem_filter]
  exact ⟨List.mem_map.2 ⟨x.toNat,by rw [List.mem_range]; omega,by omega⟩,by simpa using hnf⟩
 have hat : ∀ x ∈ o.drop c.passed,c.free.idxOf x < c.free.length∧c.tk.at' (c.free.idxOf x)=x:=fun x hx=>by
  have hl:=List.idxOf_lt_length_of_mem (hfree x hx)
  refine ⟨hl,?_⟩
  show c.free.getD _ 0=x
  rw [List.getD_eq_getElem?_getD,List.getElem?_eq_getElem hl,List.getElem_idxOf]
  rfl
 refine ⟨(o.drop c.passed).map fun x=>c.free.idxOf x,mem_all.2 ⟨⟨?_,fun i hi=>?_⟩,by rw [List.length_map]; exact hdl⟩,?_⟩
 ·refine List.pairwise_map.2 (hnd.imp_of_mem fun {a b} ha hb hab e=>hab ?_)
  have:=congrArg c.tk.at' e
  rw [(hat a ha).2,(hat b hb).2] at this
  exact this
 ·obtain ⟨x,hx,rfl⟩:=List.mem_map.1 hi
  exact (hat x hx).1
 ·unfold Cg.order
  rw [List.map_map]
  conv=>lhs; rw [hsp]
  congr 1
  refine (List.map_id _).symm.trans (List.map_congr_left fun x hx=>?_)
  exact (hat x hx).2.symm
theorem valid_le {c : Cg} (cok : CgOk c) {o : List Int} (ho : ordOk c.n o=true) (ht : o.take c.passed=c.front) : cle c.goal.total (c.rcost o):=by
 obtain ⟨q,hq,rfl⟩:=valid_order cok ho ht
 rw [order_cost cok hq]
 exact total_le hq
theorem amd_cost {c : Cg} (cok : CgOk c) : c.rcost c.amd.order=c.goal.total:=by
 obtain ⟨q,q1,q2,q3⟩:=mem_bests.1 (List.mem_of_getElem? (bests_head c))
 show c.rcost (c.bests.headD [])=_
 rw [q3,order_cost cok q1,q2]
end Go.Gx.A
namespace Go.Gx.A
open Go.Gx Go.Proofs
set_option maxRecDepth 100000
set_option linter.all false
set_option maxHeartbeats 2000000
theorem amd_mem {c : Cg} (cok : CgOk c) {x : Int} : x ∈ c.amd.order ↔ 0 ≤ x∧x < c.n:=by
 obtain ⟨q,q1,q2,q3⟩:=mem_bests.1 (List.mem_of_getElem? (bests_head c))
 show x ∈ c.bests.headD [] ↔ _
 rw [q3]
 exact order_mem cok (mem_all.1 q1).1 (mem_all.1 q1).2
end Go.Gx.A
namespace Go.Gx.A
open Go.Gx Go.Proofs
set_option maxRecDepth 100000
set_option linter.all false
end Go.Gx.A
namespace Go.Gx.A
open Go.Gx Go.Proofs
set_option maxRecDepth 100000
set_option linter.all false
set_option maxHeartbeats 2000000
def Ao (S : AS) (v : Value) (l : List Arw) : Prop:=SlAt S 181 v (l.map Arw.cells)
theorem arw_uni (l : List Arw) : Uni 4 (l.map Arw.cells):=fun x hx=>by
 obtain ⟨a,_,rfl⟩:=List.mem_map.1 hx
 rfl
theorem Ao.stays {S S' : AS} {v : Value} {l : List Arw} (h : Ao S v l) {fp : List Nat} (hs : Same S S' fp) (hd : ∀ m ∈ ownsOf v,m ∉ fp) : Ao S' v l:=SlAt.stays h hs hd
theorem arw_flen : ∀ (l : List Arw),(l.map Arw.cells).flatten.length=l.length * 4
 | []=>rfl
 | a :: l=>by
  have:=arw_flen l
  simp only [List.map_cons,List.flatten_cons,List.length_append,List.length_cons]
  rw [this]
  simp [Arw.cells]
  omega
theorem Ao.as {S : AS} {v : Value} {l : List Arw} (h : Ao S v l) (hl : l.length ≤ 100000) : As S v l:=by
 refine ⟨?_,by omega⟩
 rcases h with ⟨rfl,hn⟩ | ⟨p,ex,rfl,h2,h3⟩
 ·have : l=[]:=List.map_eq_nil_iff.1 hn
  subst this
  exact ⟨⟨none,0,rfl⟩,rfl,arw_uni [],by simp [ownsOf]⟩
 ·refine ⟨⟨_,_,rfl⟩,?_,arw_uni l,by simpa [ownsOf] using h3⟩
  have hf:=arw_flen l
  unfold srcCells
  simp only [h2,List.length_map]
  by_cases h0 : l.length * 4=0
  ·rw [if_pos h0]
   have : l=[]:=List.length_eq_zero_iff.1 (by omega)
   subst this
   rfl
  ·rw [if_neg h0,if_pos (by omega),List.drop_zero,← hf,List.take_length]
def Prs (S : AS) (v : Value) (P : List (Int × Int)) : Prop:=Ps S 2 v (P.map fun p=>[.int .i64 p.1,.int .i64 p.2])
end Go.Gx.A
