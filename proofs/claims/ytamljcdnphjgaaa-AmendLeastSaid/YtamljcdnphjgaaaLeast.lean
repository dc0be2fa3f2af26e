/-
  AmendLeast returns true for every change and order, and its arguments read as before. No condition.
-/
import Derived.Test.YtamljcdnphjgaaaQd
import Derived.Test.YtamljcdnphjgaaaPb
set_option linter.all false
set_option linter.deprecated false
set_option linter.unusedSimpArgs false
set_option linter.unusedVariables false
namespace Go.Proofs.Ytamljcdnphjgaaa
open Go.Gx Go.Gx.A Go.Proofs
open Go.ChangeShapes Go.WideShapes Go.ChangeAt Go.RowKit
set_option maxRecDepth 100000
set_option linter.all false
theorem least_law (S : AS) (vs : List Value) (hS : S.Valid) (h : TyArgs Try.prog S 6 [27,25] vs) : Gx.Call A.G 14 vs S fun e _=>e=.ret (.bool true):=by
 obtain ⟨v0,_,rfl,h0,h⟩:=tyArgs_cons h
 obtain ⟨v1,_,rfl,h1,h⟩:=tyArgs_cons h
 obtain rfl:=tyArgs_nil h
 obtain ⟨c,va,vo,rfl,hc⟩:=chg_of hS h0
 obtain ⟨m,hm,_⟩:=is_of u25 u3 n3 hS (tyV_slice u25 h1)
 exact least_walk hc hm
theorem least_lifted (os : Os) (started : os.Started) (H : Type) (enc : TypeId × Value→H) :
  ReturnsInHanded {} Try.checked os 14 .any (Rows.amendLeastSpec.pre6 enc Try.prog Try.f14 Rows.amendLeastRow.domain false) (Rows.amendLeastSpec.post enc Try.prog Try.f14 false true false false):=
 law_returns (C:=Try.checked) (G:=A.G) (d:=6) (ts:=[27,25]) (tb:=4) tabOK extOK mixed started own (by kernel_rfl) Try.func14
  (ChangeSpec.witness6 (enc:=enc) (C:=Try.checked) false ⟨#[],#[.agg #[.int .i64 0,.slice none 0 0,.slice none 0 0,.int .i64 0],.slice none 0 0],[]⟩ 8 (by kernel_rfl) (by kernel_rfl) (by kernel_rfl) (by kernel_rfl))
  laidOut rfl (by kernel_rfl) u4 (by kernel_rfl) (by
   intro t ht
   simp only [List.mem_cons,List.not_mem_nil,or_false] at ht
   rcases ht with rfl | rfl <;> exact ⟨by kernel_rfl,of_decide_eq_true (by kernel_rfl),by kernel_rfl⟩)
  (by
   intro ds hl
   match ds,hl with
   | [_,_],_=>exact ⟨rfl,rfl,rfl⟩)
  least_law
theorem least_j1 : Try.prog.inPlace 14=Rows.amendLeastRow.inPlace:=by kernel_rfl
theorem least_j2 : Try.prog.unfollowed 14=Rows.amendLeastRow.unfollowed:=by kernel_rfl
theorem least_j3 : Try.prog.recurses 14=Rows.amendLeastRow.recurses:=by kernel_rfl
theorem least_j4 : Try.prog.varsNamed 14=Rows.amendLeastRow.named:=by kernel_rfl
theorem least_k1 : (Try.prog.make == some Rows.amendLeastRow.make)=true:=by kernel_rfl
theorem least_k2 : (Rows.amendLeastRow.lifted == Try.prog.liftsFinal)=true:=by kernel_rfl
theorem least_k3 : Try.prog.stopsHeard=true:=by kernel_rfl
theorem least_k4 : Try.prog.mayEnter=true:=by kernel_rfl
theorem least_k5 : (Rows.amendLeastRow.plainKeys == Try.prog.plainKeys)=true:=by kernel_rfl
theorem least_closed : joinedFacts Try.prog 14 Try.f14 Rows.amendLeastSpec Rows.amendLeastRow=true:=by
 unfold joinedFacts
 rw [least_j1,least_j2,least_j3,least_j4,least_k1,least_k2,least_k3,least_k4,least_k5]
 kernel_rfl
theorem least_named : Try.prog.funcNamed Rows.amendLeastRow.func=some 14:=by kernel_rfl
theorem least_holds : Rows.AmendLeastSaid:=
 OpenClaim.holds_of_wide 14 Try.f14 rfl rfl rfl rfl rfl rfl rfl ⟨rfl,rfl,rfl,rfl,rfl⟩ rfl rfl rfl rfl rfl least_named Try.func14 least_closed
  (of_decide_eq_true (by kernel_rfl)) (by unfold Func.isWrapper; first | (rw [if_pos (by decide +kernel)]; kernel_rfl) | (rw [if_neg (by decide +kernel)]; exact ⟨rfl,rfl⟩))
  (fun os started H enc _=>least_lifted os started H enc)
#print axioms least_holds
end Go.Proofs.Ytamljcdnphjgaaa
