/-
  AmendPassed returns true for every relation, order and list of steps, and its arguments read as before. No condition.
-/
import Derived.Test.YtamljcdnphjgaaaQo
set_option linter.all false
set_option linter.deprecated false
set_option linter.unusedSimpArgs false
set_option linter.unusedVariables false
namespace Go.Proofs.Ytamljcdnphjgaaa
open Go.Gx Go.Gx.A Go.Proofs
open Go.ChangeShapes Go.WideShapes Go.ChangeAt Go.RowKit
set_option maxRecDepth 100000
theorem passed_law (S : AS) (vs : List Value) (hS : S.Valid) (h : TyArgs Try.prog S 7 [24,25,87] vs) : Gx.Call A.G 22 vs S fun e _=>e=.ret (.bool true):=by
 obtain ⟨v0,_,rfl,h0,h⟩:=tyArgs_cons h
 obtain ⟨v1,_,rfl,h1,h⟩:=tyArgs_cons h
 obtain ⟨v2,_,rfl,h2,h⟩:=tyArgs_cons h
 obtain rfl:=tyArgs_nil h
 obtain ⟨N,l,va,rfl,hv,hN⟩:=rel_of2 hS h0
 obtain ⟨m,hm,_⟩:=is_of u25 u3 n3 hS (tyV_slice u25 h1)
 obtain ⟨L,hL⟩:=sts_of hS (tyV_slice u87 h2)
 exact passed_walk hv hm hL hN
theorem passed_lifted (os : Os) (started : os.Started) (H : Type) (enc : TypeId × Value→H) :
  ReturnsInHanded {} Try.checked os 22 .any (Rows.amendPassedSpec.pre6 enc Try.prog Try.f22 Rows.amendPassedRow.domain false) (Rows.amendPassedSpec.post enc Try.prog Try.f22 false true false false):=
 law_returns (C:=Try.checked) (G:=A.G) (d:=7) (ts:=[24,25,87]) (tb:=4) tabOK extOK mixed started own (by kernel_rfl) Try.func22
  (ChangeSpec.witness6 (enc:=enc) (C:=Try.checked) false ⟨#[],#[.agg #[.int .i64 0,.slice none 0 0],.slice none 0 0,.slice none 0 0],[]⟩ 8 (by kernel_rfl) (by kernel_rfl) (by kernel_rfl) (by kernel_rfl))
  laidOut rfl (by kernel_rfl) u4 (by kernel_rfl) (by
   intro t ht
   simp only [List.mem_cons,List.not_mem_nil,or_false] at ht
   rcases ht with rfl | rfl | rfl <;> exact ⟨by kernel_rfl,of_decide_eq_true (by kernel_rfl),by kernel_rfl⟩)
  (by
   intro ds hl
   match ds,hl with
   | [_,_,_],_=>exact ⟨rfl,rfl,rfl⟩)
  passed_law
theorem passed_j1 : Try.prog.inPlace 22=Rows.amendPassedRow.inPlace:=by kernel_rfl
theorem passed_j2 : Try.prog.unfollowed 22=Rows.amendPassedRow.unfollowed:=by kernel_rfl
theorem passed_j3 : Try.prog.recurses 22=Rows.amendPassedRow.recurses:=by kernel_rfl
theorem passed_j4 : Try.prog.varsNamed 22=Rows.amendPassedRow.named:=by kernel_rfl
theorem passed_k1 : (Try.prog.make == some Rows.amendPassedRow.make)=true:=by kernel_rfl
theorem passed_k2 : (Rows.amendPassedRow.lifted == Try.prog.liftsFinal)=true:=by kernel_rfl
theorem passed_k3 : Try.prog.stopsHeard=true:=by kernel_rfl
theorem passed_k4 : Try.prog.mayEnter=true:=by kernel_rfl
theorem passed_k5 : (Rows.amendPassedRow.plainKeys == Try.prog.plainKeys)=true:=by kernel_rfl
theorem passed_closed : joinedFacts Try.prog 22 Try.f22 Rows.amendPassedSpec Rows.amendPassedRow=true:=by
 unfold joinedFacts
 rw [passed_j1,passed_j2,passed_j3,passed_j4,passed_k1,passed_k2,passed_k3,passed_k4,passed_k5]
 kernel_rfl
theorem passed_named : Try.prog.funcNamed Rows.amendPassedRow.func=some 22:=by kernel_rfl
theorem passed_holds : Rows.AmendPassedSaid:=
 OpenClaim.holds_of_wide 22 Try.f22 rfl rfl rfl rfl rfl rfl rfl ⟨rfl,rfl,rfl,rfl,rfl⟩ rfl rfl rfl rfl rfl passed_named Try.func22 passed_closed
  (of_decide_eq_true (by kernel_rfl)) (by unfold Func.isWrapper; first | (rw [if_pos (by decide +kernel)]; kernel_rfl) | (rw [if_neg (by decide +kernel)]; exact ⟨rfl,rfl⟩))
  (fun os started H enc _=>passed_lifted os started H enc)
#print axioms passed_holds
end Go.Proofs.Ytamljcdnphjgaaa
