/-
  Tasks in memory; costs.
-/
import Derived.Test.YtamljcdnphjgaaaPm
import Derived.Test.YtamljcdnphjgaaaPk
set_option linter.all false
set_option linter.deprecated false
set_option linter.unusedSimpArgs false
set_option linter.unusedVariables false
namespace Go.Gx.A
open Go.Gx Go.Proofs
set_option maxRecDepth 100000
set_option linter.all false
set_option maxHeartbeats 1000000
abbrev cV (c : Cost) : Value:=.agg #[.int .i64 c.1,.int .i64 c.2]
theorem SB.mono {B : Nat} {S S' : AS} {fp gp : List Nat} (h : SB B S S' fp) (hg : ∀ m ∈ fp,m ∈ gp) : SB B S S' gp:=⟨h.1,fun m hm hn=>h.2 m hm fun hk=>hn (hg m hk)⟩
def LeastAt (S : AS) (lm : Nat) (c : Cg) : Prop:=∃ f : Int × Int→Option Value,MapAt S lm [.int .i64,.int .i64] true (fun x : Int × Int=>Value.agg #[.int .i64 x.1,.int .i64 x.2]) f∧∀ (s : St) v,s.1 < 2 ^ c.tk.f→f ((s.1 : Int),s.2)=some v→v=cV (c.tk.rest s)
theorem LeastAt.stays {S S' : AS} {lm : Nat} {c : Cg} (h : LeastAt S lm c) (hs : S'.get lm=S.get lm) : LeastAt S' lm c:=by
 obtain ⟨f,⟨es,k,h1,h2⟩,h3⟩:=h
 exact ⟨f,⟨es,k,by rw [hs]; exact h1,h2⟩,h3⟩
@[simp] theorem _root_.Go.Gx.resV_cells {S : AS} {env : List Value} {t u : Nat} {g g' : Option Nat} : resV [.cell t g,.cell u g'] env S=(cellRV S g (env.getD t undef)).bind fun v=>(cellRV S g' (env.getD u undef)).map fun w=>.tuple #[v,w]:=by
 unfold resV
 simp only [List.mapM_cons,List.mapM_nil,loadRV_cell]
 cases cellRV S g (env.getD t undef) <;> cases cellRV S g' (env.getD u undef) <;> rfl
end Go.Gx.A
namespace Go.Gx.A
open Go.Gx Go.Proofs
set_option maxRecDepth 100000
set_option linter.all false
set_option maxHeartbeats 2000000
end Go.Gx.A
namespace Go.Gx
section
variable {G : Tab} {l : Nat} {a : Act} {S : AS} {Q : En→AS→Prop} {pend : Option Jump} {env : List Value} {ps : List Nat} {asg body body1 : C} {dblk : Nat} {ls : LoopState}
@[simp] theorem kra_ready : KRa G l body Q .norm a (some (.loop .ready pend env ps asg body1 dblk)) S=Run G body [] a (S.put l (.loop .busy pend env ps asg body1 dblk)) (fun e _ S2=>KRd l Q e (S2.get l) S2):=_root_.id rfl
@[simp] theorem krd_norm : KRd l Q .norm (some (.loop ls pend env ps asg body dblk)) S=Q (.ret (.bool true)) (S.put l (.loop .ready none env ps asg body dblk)):=_root_.id rfl
@[simp] theorem krd_exit {id : Nat} : KRd l Q (.exit id) (some (.loop ls pend env ps asg body dblk)) S=Q (.ret (.bool false)) (S.put l (.loop .done (some (.exit id)) env ps asg body dblk)):=_root_.id rfl
@[simp] theorem krd_ret : KRd l Q .ret (some (.loop ls pend env ps asg body dblk)) S=Q (.ret (.bool false)) (S.put l (.loop .done (some .ret) env ps asg body dblk)):=_root_.id rfl
@[simp] theorem setParams_cons {p : Nat} {v : Value} {vs : List Value} : setParams (p :: ps) (v :: vs) env=setParams ps vs (env.set p v):=_root_.id rfl
@[simp] theorem setParams_nil {vs : List Value} : setParams [] vs env=env:=_root_.id rfl
@[simp] theorem calleeOf_yield' {first : Array Value} {c : Array Value} {args : List Value} : calleeOf (.func (.yield l) first c) args=some (.round l (first.toList ++ args)):=_root_.id rfl
end
end Go.Gx
namespace Go.Gx.A
open Go.Gx Go.Proofs
set_option maxRecDepth 100000
set_option linter.all false
set_option maxHeartbeats 2000000
end Go.Gx.A
namespace Go.Gx.A
open Go.Gx Go.Proofs
set_option maxRecDepth 100000
set_option linter.all false
set_option maxHeartbeats 4000000
@[simp] theorem rowLoad5a {a b c d e : Value} : rowLoad [a,b,c,d,e] 1 (some 2)=some (.agg #[b,c]):=rfl
@[simp] theorem rowLoad5b {a b c d e : Value} : rowLoad [a,b,c,d,e] 3 (some 2)=some (.agg #[d,e]):=rfl
@[simp] theorem rowStore5 {a b c d e a' b' c' d' e' : Value} : rowStore [a,b,c,d,e] 0 [a',b',c',d',e']=if (okc a' && okc b' && okc c' && okc d' && okc e')=true then some [a',b',c',d',e'] else none:=by
 unfold rowStore
 by_cases h : (okc a' && okc b' && okc c' && okc d' && okc e')=true
 ·rw [if_pos h,if_pos ⟨by simp,by simpa [Bool.and_assoc] using h⟩]; rfl
 ·rw [if_neg h,if_neg (fun g=>h (by simpa [Bool.and_assoc] using g.2))]
end Go.Gx.A
namespace Go.Gx.A
open Go.Gx Go.Proofs
set_option maxRecDepth 100000
set_option linter.all false
set_option maxHeartbeats 4000000
end Go.Gx.A
