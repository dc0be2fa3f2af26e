/-
  AmendSettles returns true for every change, and its argument reads as before. No condition.
-/
import Derived.Test.YtamljcdnphjgaaaQh
import Derived.Test.YtamljcdnphjgaaaPb
set_option linter.all false
set_option linter.deprecated false
set_option linter.unusedSimpArgs false
set_option linter.unusedVariables false
namespace Go.Proofs.Ytamljcdnphjgaaa
open Go.Gx Go.Gx.A Go.Proofs
open Go.ChangeShapes Go.WideShapes Go.ChangeAt Go.RowKit
set_option maxRecDepth 100000
set_option linter.all false
theorem settles_law (S : AS) (vs : List Value) (hS : S.Valid) (h : TyArgs Try.prog S 6 [27] vs) : Gx.Call A.G 20 vs S fun e _=>e=.ret (.bool true):=by
 obtain ⟨v0,_,rfl,h0,h⟩:=tyArgs_cons h
 obtain rfl:=tyArgs_nil h
 obtain ⟨c,va,vo,rfl,hc⟩:=chg_of hS h0
 exact settles_walk hc
theorem settles_lifted (os : Os) (started : os.Started) (H : Type) (enc : TypeId × Value→H) :
  ReturnsInHanded {} Try.checked os 20 .any (Rows.amendSettlesSpec.pre6 enc Try.prog Try.f20 Rows.amendSettlesRow.domain false) (Rows.amendSettlesSpec.post enc Try.prog Try.f20 false true false false):=
 law_returns (C:=Try.checked) (G:=A.G) (d:=6) (ts:=[27]) (tb:=4) tabOK extOK mixed started own (by kernel_rfl) Try.func20
  (ChangeSpec.witness6 (enc:=enc) (C:=Try.checked) false ⟨#[],#[.agg #[.int .i64 0,.slice none 0 0,.slice none 0 0,.int .i64 0]],[]⟩ 8 (by kernel_rfl) (by kernel_rfl) (by kernel_rfl) (by kernel_rfl))
  laidOut rfl (by kernel_rfl) u4 (by kernel_rfl) (by
   intro t ht
   simp only [List.mem_cons,List.not_mem_nil,or_false] at ht
   rcases ht with rfl <;> exact ⟨by kernel_rfl,of_decide_eq_true (by kernel_rfl),by kernel_rfl⟩)
  (by
   intro ds hl
   match ds,hl with
   | [_],_=>exact ⟨rfl,rfl,rfl⟩)
  settles_law
theorem settles_j1 : Try.prog.inPlace 20=Rows.amendSettlesRow.inPlace:=by kernel_rfl
theorem settles_j2 : Try.prog.unfollowed 20=Rows.amendSettlesRow.unfollowed:=by kernel_rfl
theorem settles_j3 : Try.prog.recurses 20=Rows.amendSettlesRow.recurses:=by kernel_rfl
theorem settles_j4 : Try.prog.varsNamed 20=Rows.amendSettlesRow.named:=by kernel_rfl
theorem settles_k1 : (Try.prog.make == some Rows.amendSettlesRow.make)=true:=by kernel_rfl
theorem settles_k2 : (Rows.amendSettlesRow.lifted == Try.prog.liftsFinal)=true:=by kernel_rfl
theorem settles_k3 : Try.prog.stopsHeard=true:=by kernel_rfl
theorem settles_k4 : Try.prog.mayEnter=true:=by kernel_rfl
theorem settles_k5 : (Rows.amendSettlesRow.plainKeys == Try.prog.plainKeys)=true:=by kernel_rfl
theorem settles_closed : joinedFacts Try.prog 20 Try.f20 Rows.amendSettlesSpec Rows.amendSettlesRow=true:=by
 unfold joinedFacts
 rw [settles_j1,settles_j2,settles_j3,settles_j4,settles_k1,settles_k2,settles_k3,settles_k4,settles_k5]
 kernel_rfl
theorem settles_named : Try.prog.funcNamed Rows.amendSettlesRow.func=some 20:=by kernel_rfl
theorem settles_holds : Rows.AmendSettlesSaid:=
 OpenClaim.holds_of_wide 20 Try.f20 rfl rfl rfl rfl rfl rfl rfl ⟨rfl,rfl,rfl,rfl,rfl⟩ rfl rfl rfl rfl rfl settles_named Try.func20 settles_closed
  (of_decide_eq_true (by kernel_rfl)) (by unfold Func.isWrapper; first | (rw [if_pos (by decide +kernel)]; kernel_rfl) | (rw [if_neg (by decide +kernel)]; exact ⟨rfl,rfl⟩))
  (fun os started H enc _=>settles_lifted os started H enc)
#print axioms settles_holds
end Go.Proofs.Ytamljcdnphjgaaa
