/-
  Kept guests of two lists (no program in sight): a longest common list, always with the first place that will do.
-/
import Derived.Test.YtamljcdnphjgaaaGf
set_option linter.all false
set_option linter.deprecated false
set_option linter.unusedSimpArgs false
set_option linter.unusedVariables false
namespace Go.Gx.A
set_option linter.all false
abbrev Pl:=Option Nat × Int
def L : List Pl→Nat→Nat
 | [],_=>0
 | (none,_) :: r,a=>L r a
 | (some b,_) :: r,a=>if a ≤ b then max (L r a) (1 + L r (b + 1)) else L r a
def lgHead : Pl→List Pl→Nat
 | (none,_),_=>0
 | (some b,_),r=>1 + L r (b + 1)
def mx (a : Nat) : List Pl→Nat
 | []=>0
 | (none,_) :: r=>mx a r
 | (some b,x) :: r=>if a ≤ b then max (lgHead (some b,x) r) (mx a r) else mx a r
end Go.Gx.A
namespace Go.Gx.A
set_option linter.all false
abbrev Cost:=Int × Int
def cadd (a b : Cost) : Cost:=(a.1 + b.1,a.2 + b.2)
def clt (a b : Cost) : Bool:=decide (a.1 < b.1 ∨ a.1=b.1∧a.2 < b.2)
def leastO : Option Cost→List Cost→Option Cost
 | b,[]=>b
 | none,c :: r=>leastO (some c) r
 | some b,c :: r=>leastO (some (if clt c b then c else b)) r
def isum : List Int→Int
 | []=>0
 | x :: r=>x + isum r
def cnt (f set : Nat) : Nat:=(List.range f).countP fun i=>!set.testBit i
structure Tk where
 free : List Int
 front : List Int
 place : Int→Option Int
 w : Int→Int→Int
abbrev St:=Nat × Int
abbrev Sp:=Nat × St × Cost
namespace Tk
def f (T : Tk) : Nat:=T.free.length
def at' (T : Tk) (i : Nat) : Int:=T.free.getD i 0
def behind (T : Tk) (x : Int) (set : Nat) : Int:=isum (T.front.map (T.w x)) + isum ((List.range T.f).map fun k=>if set.testBit k=true then T.w x (T.at' k) else 0)
def stepAt (T : Tk) (s : St) (i : Nat) : List Sp:=
 if s.1.testBit i=true then [] else
  match T.place (T.at' i) with
  | none=>[(i,(s.1 ||| 2 ^ i,s.2),(T.behind (T.at' i) s.1,0))]
  | some p=>(if s.2 < p then [(i,(s.1 ||| 2 ^ i,p),(T.behind (T.at' i) s.1,0))] else []) ++ [(i,(s.1 ||| 2 ^ i,s.2),(T.behind (T.at' i) s.1,1))]
def steps (T : Tk) (s : St) : List Sp:=(List.range T.f).flatMap (T.stepAt s)
end Tk
def restF (T : Tk) : Nat→St→Cost
 | 0,_=>(0,0)
 | k + 1,s=>(leastO none ((T.steps s).map fun x=>cadd x.2.2 (restF T k x.2.1))).getD (0,0)
def Tk.rest (T : Tk) (s : St) : Cost:=restF T (cnt T.f s.1) s
def Vd (T : Tk) : Nat→List Nat→Prop
 | _,[]=>True
 | set,i :: q=>i < T.f∧set.testBit i=false∧Vd T (set ||| 2 ^ i) q
def offQ (T : Tk) : Nat→List Nat→Int
 | _,[]=>0
 | set,i :: q=>T.behind (T.at' i) set + offQ T (set ||| 2 ^ i) q
def movS (p : Option Int) (last : Int) (g : Int→Int) : Int:=match p with
 | none=>g last
 | some p=>if last < p then min (g p) (1 + g last) else 1 + g last
def movQ (T : Tk) : Int→List Nat→Int
 | _,[]=>0
 | last,i :: q=>movS (T.place (T.at' i)) last fun l=>movQ T l q
def permsX (f : Nat) : Nat→List Nat→List (List Nat)
 | 0,q=>[q]
 | k + 1,q=>(List.range f).flatMap fun i=>if i ∈ q then [] else permsX f k (q ++ [i])
structure Goal where
 T : Tk
 last0 : Int
 base : Int
namespace Goal
def cost (g : Goal) (q : List Nat) : Cost:=cadd (g.base,0) (offQ g.T 0 q,movQ g.T g.last0 q)
def all (g : Goal) : List (List Nat):=permsX g.T.f g.T.f []
end Goal
end Go.Gx.A
namespace Go.Gx.A
set_option linter.all false
structure Cg where
 n : Nat
 w : Int→Int→Int
 old : List Int
 passed : Nat
namespace Cg
def front (c : Cg) : List Int:=c.old.take c.passed
def free (c : Cg) : List Int:=((List.range c.n).map fun (x : Nat)=>(x : Int)).filter fun x=>decide (x ∉ c.front)
def tk (c : Cg) : Tk:=⟨c.free,c.front,fun x=>(c.old.idxOf? x).map fun (i : Nat)=>(i : Int),c.w⟩
def order (c : Cg) (q : List Nat) : List Int:=c.front ++ q.map c.tk.at'
end Cg
end Go.Gx.A
