/-
  AmendCounts returns true for every change, and its argument reads as before. No condition.
-/
import Derived.Test.YtamljcdnphjgaaaQh
import Derived.Test.YtamljcdnphjgaaaPb
set_option linter.all false
set_option linter.deprecated false
set_option linter.unusedSimpArgs false
set_option linter.unusedVariables false
namespace Go.Proofs.Ytamljcdnphjgaaa
open Go.Gx Go.Gx.A Go.Proofs
open Go.ChangeShapes Go.WideShapes Go.ChangeAt Go.RowKit
set_option maxRecDepth 100000
set_option linter.all false
theorem counts_law (S : AS) (vs : List Value) (hS : S.Valid) (h : TyArgs Try.prog S 6 [27] vs) : Gx.Call A.G 19 vs S fun e _=>e=.ret (.bool true):=by
 obtain ⟨v0,_,rfl,h0,h⟩:=tyArgs_cons h
 obtain rfl:=tyArgs_nil h
 obtain ⟨c,va,vo,rfl,hc⟩:=chg_of hS h0
 exact counts_walk hc
theorem counts_lifted (os : Os) (started : os.Started) (H : Type) (enc : TypeId × Value→H) :
  ReturnsInHanded {} Try.checked os 19 .any (Rows.amendCountsSpec.pre6 enc Try.prog Try.f19 Rows.amendCountsRow.domain false) (Rows.amendCountsSpec.post enc Try.prog Try.f19 false true false false):=
 law_returns (C:=Try.checked) (G:=A.G) (d:=6) (ts:=[27]) (tb:=4) tabOK extOK mixed started own (by kernel_rfl) Try.func19
  (ChangeSpec.witness6 (enc:=enc) (C:=Try.checked) false ⟨#[],#[.agg #[.int .i64 0,.slice none 0 0,.slice none 0 0,.int .i64 0]],[]⟩ 8 (by kernel_rfl) (by kernel_rfl) (by kernel_rfl) (by kernel_rfl))
  laidOut rfl (by kernel_rfl) u4 (by kernel_rfl) (by
   intro t ht
   simp only [List.mem_cons,List.not_mem_nil,or_false] at ht
   rcases ht with rfl <;> exact ⟨by kernel_rfl,of_decide_eq_true (by kernel_rfl),by kernel_rfl⟩)
  (by
   intro ds hl
   match ds,hl with
   | [_],_=>exact ⟨rfl,rfl,rfl⟩)
  counts_law
theorem counts_j1 : Try.prog.inPlace 19=Rows.amendCountsRow.inPlace:=by kernel_rfl
theorem counts_j2 : Try.prog.unfollowed 19=Rows.amendCountsRow.unfollowed:=by kernel_rfl
theorem counts_j3 : Try.prog.recurses 19=Rows.amendCountsRow.recurses:=by kernel_rfl
theorem counts_j4 : Try.prog.varsNamed 19=Rows.amendCountsRow.named:=by kernel_rfl
theorem counts_k1 : (Try.prog.make == some Rows.amendCountsRow.make)=true:=by kernel_rfl
theorem counts_k2 : (Rows.amendCountsRow.lifted == Try.prog.liftsFinal)=true:=by kernel_rfl
theorem counts_k3 : Try.prog.stopsHeard=true:=by kernel_rfl
theorem counts_k4 : Try.prog.mayEnter=true:=by kernel_rfl
theorem counts_k5 : (Rows.amendCountsRow.plainKeys == Try.prog.plainKeys)=true:=by kernel_rfl
theorem counts_closed : joinedFacts Try.prog 19 Try.f19 Rows.amendCountsSpec Rows.amendCountsRow=true:=by
 unfold joinedFacts
 rw [counts_j1,counts_j2,counts_j3,counts_j4,counts_k1,counts_k2,counts_k3,counts_k4,counts_k5]
 kernel_rfl
theorem counts_named : Try.prog.funcNamed Rows.amendCountsRow.func=some 19:=by kernel_rfl
theorem counts_holds : Rows.AmendCountsSaid:=
 OpenClaim.holds_of_wide 19 Try.f19 rfl rfl rfl rfl rfl rfl rfl ⟨rfl,rfl,rfl,rfl,rfl⟩ rfl rfl rfl rfl rfl counts_named Try.func19 counts_closed
  (of_decide_eq_true (by kernel_rfl)) (by unfold Func.isWrapper; first | (rw [if_pos (by decide +kernel)]; kernel_rfl) | (rw [if_neg (by decide +kernel)]; exact ⟨rfl,rfl⟩))
  (fun os started H enc _=>counts_lifted os started H enc)
#print axioms counts_holds
end Go.Proofs.Ytamljcdnphjgaaa
