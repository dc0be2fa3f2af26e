/-
  AmendProofs returns true for every change, amendment and proof, and its arguments read as before. No condition.
-/
import Derived.Test.YtamljcdnphjgaaaQe
import Derived.Test.YtamljcdnphjgaaaPb
import Derived.Test.YtamljcdnphjgaaaQy
set_option linter.all false
set_option linter.deprecated false
set_option linter.unusedSimpArgs false
set_option linter.unusedVariables false
namespace Go.Proofs.Ytamljcdnphjgaaa
open Go.Gx Go.Gx.A Go.Proofs
open Go.ChangeShapes Go.WideShapes Go.ChangeAt Go.RowKit
set_option maxRecDepth 100000
set_option linter.all false
theorem proofs_law (S : AS) (vs : List Value) (hS : S.Valid) (h : TyArgs Try.prog S 6 [27,44,50] vs) : Gx.Call A.G 13 vs S fun e _=>e=.ret (.bool true):=by
 obtain ⟨v0,_,rfl,h0,h⟩:=tyArgs_cons h
 obtain ⟨v1,_,rfl,h1,h⟩:=tyArgs_cons h
 obtain ⟨v2,_,rfl,h2,h⟩:=tyArgs_cons h
 obtain rfl:=tyArgs_nil h
 obtain ⟨c,va,vo,rfl,hc⟩:=chg_of hS h0
 obtain ⟨A,v,k,rfl,hA⟩:=amd_of hS h1
 obtain ⟨w,P,rfl,hP⟩:=proof_of hS h2
 exact proofs_walk hc hA hP
theorem proofs_lifted (os : Os) (started : os.Started) (H : Type) (enc : TypeId × Value→H) :
  ReturnsInHanded {} Try.checked os 13 .any (Rows.amendProofsSpec.pre6 enc Try.prog Try.f13 Rows.amendProofsRow.domain false) (Rows.amendProofsSpec.post enc Try.prog Try.f13 false true false false):=
 law_returns (C:=Try.checked) (G:=A.G) (d:=6) (ts:=[27,44,50]) (tb:=4) tabOK extOK mixed started own (by kernel_rfl) Try.func13
  (ChangeSpec.witness6 (enc:=enc) (C:=Try.checked) false ⟨#[],#[.agg #[.int .i64 0,.slice none 0 0,.slice none 0 0,.int .i64 0],.agg #[.slice none 0 0,.int .i64 0,.int .i64 0,.slice none 0 0],.agg #[.slice none 0 0]],[]⟩ 8 (by kernel_rfl) (by kernel_rfl) (by kernel_rfl) (by kernel_rfl))
  laidOut rfl (by kernel_rfl) u4 (by kernel_rfl) (by
   intro t ht
   simp only [List.mem_cons,List.not_mem_nil,or_false] at ht
   rcases ht with rfl | rfl | rfl <;> exact ⟨by kernel_rfl,of_decide_eq_true (by kernel_rfl),by kernel_rfl⟩)
  (by
   intro ds hl
   match ds,hl with
   | [_,_,_],_=>exact ⟨rfl,rfl,rfl⟩)
  proofs_law
theorem proofs_j1 : Try.prog.inPlace 13=Rows.amendProofsRow.inPlace:=by kernel_rfl
theorem proofs_j2 : Try.prog.unfollowed 13=Rows.amendProofsRow.unfollowed:=by kernel_rfl
theorem proofs_j3 : Try.prog.recurses 13=Rows.amendProofsRow.recurses:=by kernel_rfl
theorem proofs_j4 : Try.prog.varsNamed 13=Rows.amendProofsRow.named:=by kernel_rfl
theorem proofs_k1 : (Try.prog.make == some Rows.amendProofsRow.make)=true:=by kernel_rfl
theorem proofs_k2 : (Rows.amendProofsRow.lifted == Try.prog.liftsFinal)=true:=by kernel_rfl
theorem proofs_k3 : Try.prog.stopsHeard=true:=by kernel_rfl
theorem proofs_k4 : Try.prog.mayEnter=true:=by kernel_rfl
theorem proofs_k5 : (Rows.amendProofsRow.plainKeys == Try.prog.plainKeys)=true:=by kernel_rfl
theorem proofs_closed : joinedFacts Try.prog 13 Try.f13 Rows.amendProofsSpec Rows.amendProofsRow=true:=by
 unfold joinedFacts
 rw [proofs_j1,proofs_j2,proofs_j3,proofs_j4,proofs_k1,proofs_k2,proofs_k3,proofs_k4,proofs_k5]
 kernel_rfl
theorem proofs_named : Try.prog.funcNamed Rows.amendProofsRow.func=some 13:=by kernel_rfl
theorem proofs_holds : Rows.AmendProofsSaid:=
 OpenClaim.holds_of_wide 13 Try.f13 rfl rfl rfl rfl rfl rfl rfl ⟨rfl,rfl,rfl,rfl,rfl⟩ rfl rfl rfl rfl rfl proofs_named Try.func13 proofs_closed
  (of_decide_eq_true (by kernel_rfl)) (by unfold Func.isWrapper; first | (rw [if_pos (by decide +kernel)]; kernel_rfl) | (rw [if_neg (by decide +kernel)]; exact ⟨rfl,rfl⟩))
  (fun os started H enc _=>proofs_lifted os started H enc)
#print axioms proofs_holds
end Go.Proofs.Ytamljcdnphjgaaa
