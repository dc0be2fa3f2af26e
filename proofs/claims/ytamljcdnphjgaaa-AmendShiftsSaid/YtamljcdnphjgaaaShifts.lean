/-
  AmendShifts returns true for every two lists, and its arguments read as before. No condition.
-/
import Derived.Test.YtamljcdnphjgaaaQj
import Derived.Test.YtamljcdnphjgaaaPb
set_option linter.all false
set_option linter.deprecated false
set_option linter.unusedSimpArgs false
set_option linter.unusedVariables false
namespace Go.Proofs.Ytamljcdnphjgaaa
open Go.Gx Go.Gx.A Go.Proofs
open Go.ChangeShapes Go.WideShapes Go.ChangeAt Go.RowKit
set_option maxRecDepth 100000
set_option linter.all false
theorem shifts_law (S : AS) (vs : List Value) (hS : S.Valid) (h : TyArgs Try.prog S 4 [25,25] vs) : Gx.Call A.G 21 vs S fun e _=>e=.ret (.bool true):=by
 obtain ⟨v0,_,rfl,h0,h⟩:=tyArgs_cons h
 obtain ⟨v1,_,rfl,h1,h⟩:=tyArgs_cons h
 obtain rfl:=tyArgs_nil h
 obtain ⟨m,hm,_⟩:=is_of u25 u3 n3 hS (tyV_slice u25 h0)
 obtain ⟨n,hn,_⟩:=is_of u25 u3 n3 hS (tyV_slice u25 h1)
 exact shifts_walk hm hn
theorem shifts_lifted (os : Os) (started : os.Started) (H : Type) (enc : TypeId × Value→H) :
  ReturnsInHanded {} Try.checked os 21 .any (Rows.amendShiftsSpec.pre6 enc Try.prog Try.f21 Rows.amendShiftsRow.domain false) (Rows.amendShiftsSpec.post enc Try.prog Try.f21 false true false false):=
 law_returns (C:=Try.checked) (G:=A.G) (d:=4) (ts:=[25,25]) (tb:=4) tabOK extOK mixed started own (by kernel_rfl) Try.func21
  (ChangeSpec.witness6 (enc:=enc) (C:=Try.checked) false ⟨#[],#[.slice none 0 0,.slice none 0 0],[]⟩ 8 (by kernel_rfl) (by kernel_rfl) (by kernel_rfl) (by kernel_rfl))
  laidOut rfl (by kernel_rfl) u4 (by kernel_rfl) (by
   intro t ht
   simp only [List.mem_cons,List.not_mem_nil,or_false] at ht
   rcases ht with rfl | rfl <;> exact ⟨by kernel_rfl,of_decide_eq_true (by kernel_rfl),by kernel_rfl⟩)
  (by
   intro ds hl
   match ds,hl with
   | [_,_],_=>exact ⟨rfl,rfl,rfl⟩)
  shifts_law
theorem shifts_j1 : Try.prog.inPlace 21=Rows.amendShiftsRow.inPlace:=by kernel_rfl
theorem shifts_j2 : Try.prog.unfollowed 21=Rows.amendShiftsRow.unfollowed:=by kernel_rfl
theorem shifts_j3 : Try.prog.recurses 21=Rows.amendShiftsRow.recurses:=by kernel_rfl
theorem shifts_j4 : Try.prog.varsNamed 21=Rows.amendShiftsRow.named:=by kernel_rfl
theorem shifts_k1 : (Try.prog.make == some Rows.amendShiftsRow.make)=true:=by kernel_rfl
theorem shifts_k2 : (Rows.amendShiftsRow.lifted == Try.prog.liftsFinal)=true:=by kernel_rfl
theorem shifts_k3 : Try.prog.stopsHeard=true:=by kernel_rfl
theorem shifts_k4 : Try.prog.mayEnter=true:=by kernel_rfl
theorem shifts_k5 : (Rows.amendShiftsRow.plainKeys == Try.prog.plainKeys)=true:=by kernel_rfl
theorem shifts_closed : joinedFacts Try.prog 21 Try.f21 Rows.amendShiftsSpec Rows.amendShiftsRow=true:=by
 unfold joinedFacts
 rw [shifts_j1,shifts_j2,shifts_j3,shifts_j4,shifts_k1,shifts_k2,shifts_k3,shifts_k4,shifts_k5]
 kernel_rfl
theorem shifts_named : Try.prog.funcNamed Rows.amendShiftsRow.func=some 21:=by kernel_rfl
theorem shifts_holds : Rows.AmendShiftsSaid:=
 OpenClaim.holds_of_wide 21 Try.f21 rfl rfl rfl rfl rfl rfl rfl ⟨rfl,rfl,rfl,rfl,rfl⟩ rfl rfl rfl rfl rfl shifts_named Try.func21 shifts_closed
  (of_decide_eq_true (by kernel_rfl)) (by unfold Func.isWrapper; first | (rw [if_pos (by decide +kernel)]; kernel_rfl) | (rw [if_neg (by decide +kernel)]; exact ⟨rfl,rfl⟩))
  (fun os started H enc _=>shifts_lifted os started H enc)
#print axioms shifts_holds
end Go.Proofs.Ytamljcdnphjgaaa
