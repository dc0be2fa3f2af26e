/-
  AmendProves returns true for every change, and its argument reads as before. No condition.
-/
import Derived.Test.YtamljcdnphjgaaaQa
import Derived.Test.YtamljcdnphjgaaaPb
set_option linter.all false
set_option linter.deprecated false
set_option linter.unusedSimpArgs false
set_option linter.unusedVariables false
namespace Go.Proofs.Ytamljcdnphjgaaa
open Go.Gx Go.Gx.A Go.Proofs
open Go.ChangeShapes Go.WideShapes Go.ChangeAt Go.RowKit
set_option maxRecDepth 100000
set_option linter.all false
theorem proves_law (S : AS) (vs : List Value) (hS : S.Valid) (h : TyArgs Try.prog S 6 [27] vs) : Gx.Call A.G 7 vs S fun e _=>e=.ret (.bool true):=by
 obtain ⟨v0,_,rfl,h0,h⟩:=tyArgs_cons h
 obtain rfl:=tyArgs_nil h
 obtain ⟨c,va,vo,rfl,hc⟩:=chg_of hS h0
 exact proves_walk hc
theorem proves_lifted (os : Os) (started : os.Started) (H : Type) (enc : TypeId × Value→H) :
  ReturnsInHanded {} Try.checked os 7 .any (Rows.amendProvesSpec.pre6 enc Try.prog Try.f7 Rows.amendProvesRow.domain false) (Rows.amendProvesSpec.post enc Try.prog Try.f7 false true false false):=
 law_returns (C:=Try.checked) (G:=A.G) (d:=6) (ts:=[27]) (tb:=4) tabOK extOK mixed started own (by kernel_rfl) Try.func7
  (ChangeSpec.witness6 (enc:=enc) (C:=Try.checked) false ⟨#[],#[.agg #[.int .i64 0,.slice none 0 0,.slice none 0 0,.int .i64 0]],[]⟩ 8 (by kernel_rfl) (by kernel_rfl) (by kernel_rfl) (by kernel_rfl))
  laidOut rfl (by kernel_rfl) u4 (by kernel_rfl) (by
   intro t ht
   simp only [List.mem_cons,List.not_mem_nil,or_false] at ht
   rcases ht with rfl <;> exact ⟨by kernel_rfl,of_decide_eq_true (by kernel_rfl),by kernel_rfl⟩)
  (by
   intro ds hl
   match ds,hl with
   | [_],_=>exact ⟨rfl,rfl,rfl⟩)
  proves_law
theorem proves_j1 : Try.prog.inPlace 7=Rows.amendProvesRow.inPlace:=by kernel_rfl
theorem proves_j2 : Try.prog.unfollowed 7=Rows.amendProvesRow.unfollowed:=by kernel_rfl
theorem proves_j3 : Try.prog.recurses 7=Rows.amendProvesRow.recurses:=by kernel_rfl
theorem proves_j4 : Try.prog.varsNamed 7=Rows.amendProvesRow.named:=by kernel_rfl
theorem proves_closed : joinedFacts Try.prog 7 Try.f7 Rows.amendProvesSpec Rows.amendProvesRow=true:=by
 unfold joinedFacts
 rw [proves_j1,proves_j2,proves_j3,proves_j4]
 kernel_rfl
theorem proves_named : Try.prog.funcNamed Rows.amendProvesRow.func=some 7:=by kernel_rfl
theorem proves_holds : Rows.AmendProvesSaid:=
 OpenClaim.holds_of_wide 7 Try.f7 rfl rfl rfl rfl rfl rfl rfl ⟨rfl,rfl,rfl,rfl,rfl⟩ rfl rfl rfl rfl rfl proves_named Try.func7 proves_closed
  (of_decide_eq_true (by kernel_rfl)) (by unfold Func.isWrapper; first | (rw [if_pos (by decide +kernel)]; kernel_rfl) | (rw [if_neg (by decide +kernel)]; exact ⟨rfl,rfl⟩))
  (fun os started H enc _=>proves_lifted os started H enc)
#print axioms proves_holds
end Go.Proofs.Ytamljcdnphjgaaa
