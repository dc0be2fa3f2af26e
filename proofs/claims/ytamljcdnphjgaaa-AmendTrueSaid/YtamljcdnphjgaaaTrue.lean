/-
  AmendTrue returns true for every change, amendment, proof and order, and its arguments read as before. No condition.
-/
import Derived.Test.YtamljcdnphjgaaaQd
import Derived.Test.YtamljcdnphjgaaaPb
import Derived.Test.YtamljcdnphjgaaaQy
set_option linter.all false
set_option linter.deprecated false
set_option linter.unusedSimpArgs false
set_option linter.unusedVariables false
namespace Go.Proofs.Ytamljcdnphjgaaa
open Go.Gx Go.Gx.A Go.Proofs
open Go.ChangeShapes Go.WideShapes Go.ChangeAt Go.RowKit
set_option maxRecDepth 100000
set_option linter.all false
theorem istrue_law (S : AS) (vs : List Value) (hS : S.Valid) (h : TyArgs Try.prog S 6 [27,44,50,25] vs) : Gx.Call A.G 15 vs S fun e _=>e=.ret (.bool true):=by
 obtain ⟨v0,_,rfl,h0,h⟩:=tyArgs_cons h
 obtain ⟨v1,_,rfl,h1,h⟩:=tyArgs_cons h
 obtain ⟨v2,_,rfl,h2,h⟩:=tyArgs_cons h
 obtain ⟨v3,_,rfl,h3,h⟩:=tyArgs_cons h
 obtain rfl:=tyArgs_nil h
 obtain ⟨c,va,vo,rfl,hc⟩:=chg_of hS h0
 obtain ⟨A,v,k,rfl,hA⟩:=amd_of hS h1
 obtain ⟨w,P,rfl,hP⟩:=proof_of hS h2
 obtain ⟨m,hm,_⟩:=is_of u25 u3 n3 hS (tyV_slice u25 h3)
 exact true_walk hc hA hP hm
theorem istrue_lifted (os : Os) (started : os.Started) (H : Type) (enc : TypeId × Value→H) :
  ReturnsInHanded {} Try.checked os 15 .any (Rows.amendTrueSpec.pre6 enc Try.prog Try.f15 Rows.amendTrueRow.domain false) (Rows.amendTrueSpec.post enc Try.prog Try.f15 false true false false):=
 law_returns (C:=Try.checked) (G:=A.G) (d:=6) (ts:=[27,44,50,25]) (tb:=4) tabOK extOK mixed started own (by kernel_rfl) Try.func15
  (ChangeSpec.witness6 (enc:=enc) (C:=Try.checked) false ⟨#[],#[.agg #[.int .i64 0,.slice none 0 0,.slice none 0 0,.int .i64 0],.agg #[.slice none 0 0,.int .i64 0,.int .i64 0,.slice none 0 0],.agg #[.slice none 0 0],.slice none 0 0],[]⟩ 8 (by kernel_rfl) (by kernel_rfl) (by kernel_rfl) (by kernel_rfl))
  laidOut rfl (by kernel_rfl) u4 (by kernel_rfl) (by
   intro t ht
   simp only [List.mem_cons,List.not_mem_nil,or_false] at ht
   rcases ht with rfl | rfl | rfl | rfl <;> exact ⟨by kernel_rfl,of_decide_eq_true (by kernel_rfl),by kernel_rfl⟩)
  (by
   intro ds hl
   match ds,hl with
   | [_,_,_,_],_=>exact ⟨rfl,rfl,rfl⟩)
  istrue_law
theorem istrue_j1 : Try.prog.inPlace 15=Rows.amendTrueRow.inPlace:=by kernel_rfl
theorem istrue_j2 : Try.prog.unfollowed 15=Rows.amendTrueRow.unfollowed:=by kernel_rfl
theorem istrue_j3 : Try.prog.recurses 15=Rows.amendTrueRow.recurses:=by kernel_rfl
theorem istrue_j4 : Try.prog.varsNamed 15=Rows.amendTrueRow.named:=by kernel_rfl
theorem istrue_k1 : (Try.prog.make == some Rows.amendTrueRow.make)=true:=by kernel_rfl
theorem istrue_k2 : (Rows.amendTrueRow.lifted == Try.prog.liftsFinal)=true:=by kernel_rfl
theorem istrue_k3 : Try.prog.stopsHeard=true:=by kernel_rfl
theorem istrue_k4 : Try.prog.mayEnter=true:=by kernel_rfl
theorem istrue_k5 : (Rows.amendTrueRow.plainKeys == Try.prog.plainKeys)=true:=by kernel_rfl
theorem istrue_closed : joinedFacts Try.prog 15 Try.f15 Rows.amendTrueSpec Rows.amendTrueRow=true:=by
 unfold joinedFacts
 rw [istrue_j1,istrue_j2,istrue_j3,istrue_j4,istrue_k1,istrue_k2,istrue_k3,istrue_k4,istrue_k5]
 kernel_rfl
theorem istrue_named : Try.prog.funcNamed Rows.amendTrueRow.func=some 15:=by kernel_rfl
theorem istrue_holds : Rows.AmendTrueSaid:=
 OpenClaim.holds_of_wide 15 Try.f15 rfl rfl rfl rfl rfl rfl rfl ⟨rfl,rfl,rfl,rfl,rfl⟩ rfl rfl rfl rfl rfl istrue_named Try.func15 istrue_closed
  (of_decide_eq_true (by kernel_rfl)) (by unfold Func.isWrapper; first | (rw [if_pos (by decide +kernel)]; kernel_rfl) | (rw [if_neg (by decide +kernel)]; exact ⟨rfl,rfl⟩))
  (fun os started H enc _=>istrue_lifted os started H enc)
#print axioms istrue_holds
end Go.Proofs.Ytamljcdnphjgaaa
