/-
  A sort of pairs by a contract of its own, as one step of the abstract machine.
-/
import Derived.Test.YtnhaainnhmmbfaaGreatGf
import Derived.Shelf.GgSortFunc.RowK
import Derived.Sort.Grow
set_option linter.all false
set_option linter.deprecated false
namespace Go.Gx
open Go.Proofs Go.RowKit Go.Lib Go.Sort
def le2 (x y : Int × Int) : Bool:=decide (x.1 < y.1∨x.1=y.1∧x.2≤y.2)
section
variable {P : Program} {prot : Nat→Option Obj} {w0 : World} {r : Rho} {S : AS} {w : World}
theorem mapBlock_upd {b : Nat} {c : Array Value} {e : TypeId} {fz : Nat × Nat} {f : Array Value→Array Value} (h : w.heap[b]?=some (.cells c e fz)) : mapBlock w b f=w.upd b (.cells (f c) e fz):=by
 unfold mapBlock World.upd
 congr 1
 apply Array.ext_getElem?
 intro k
 rw [Array.getElem?_modify,Array.getElem?_setIfInBounds]
 by_cases hk : b=k
 ·subst hk
  have:=lt_of_get h
  simp only [if_true,h,Option.map_some,onCells,this]
 ·simp [hk]
theorem Rel.growW (h : Rel P prot w0 r S w) (os : Array Obj) : Rel P prot w0 r S (Go.Sort.grow w os):=
 h.below ⟨rfl,rfl,rfl,by simp [Go.Sort.grow],fun k hk=>by
  show (w.heap ++ os)[k]?=_
  rw [Array.getElem?_append_left hk]⟩
theorem Rel.aheadW (h : Rel P prot w0 r S w) (n : Nat) : Rel P prot w0 r S (Sort.ahead w n):=h.drawn _
theorem sp_get {c vs : List Value} {o : Nat} (h : o + vs.length≤c.length) (k : Nat) : (splice c o vs)[k]?=if k < o then c[k]? else if k < o + vs.length then vs[k - o]? else c[k]?:=by
 unfold splice
 have ht : (c.take o).length=o:=by simp; omega
 split
 ·rename_i h1
  rw [List.getElem?_append_left (by simp; omega),List.getElem?_append_left (by omega),List.getElem?_take_of_lt h1]
 ·rename_i h1
  split
  ·rename_i h2
   rw [List.getElem?_append_left (by simp; omega),List.getElem?_append_right (by omega),ht]
  ·rename_i h2
   rw [List.getElem?_append_right (by simp; omega),List.getElem?_drop]
   simp only [List.length_append,ht]
   congr 1; omega
theorem upd_ahead (w : World) (n b : Nat) (o : Obj) : (Sort.ahead w n).upd b o=Sort.ahead (w.upd b o) n:=rfl
end
end Go.Gx
