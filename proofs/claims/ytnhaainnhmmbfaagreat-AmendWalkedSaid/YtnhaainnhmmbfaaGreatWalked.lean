/-
  AmendWalked returns true for every relation, order, list of steps and list of orders, and its arguments read as before. No condition.
-/
import Derived.Test.YtnhaainnhmmbfaaGreatZd
set_option linter.all false
set_option linter.deprecated false
namespace Go.Proofs.YtnhaainnhmmbfaaGreat
open Go.Gx Go.Gx.Z Go.Proofs
open Go.ChangeShapes Go.WideShapes Go.ChangeAt Go.RowKit
set_option maxRecDepth 100000
theorem walked_law (S : AS) (vs : List Value) (hS : S.Valid) (h : TyArgs Tryz.prog S 7 [24,25,26,29] vs) : Gx.Call Z.G 4 vs S fun e _=>e=.ret (.bool true):=by
 obtain ⟨v0,_,rfl,h0,h⟩:=tyArgs_cons h
 obtain ⟨v1,_,rfl,h1,h⟩:=tyArgs_cons h
 obtain ⟨v2,_,rfl,h2,h⟩:=tyArgs_cons h
 obtain ⟨v3,_,rfl,h3,h⟩:=tyArgs_cons h
 obtain rfl:=tyArgs_nil h
 obtain ⟨N,l,va,rfl,hv,hN⟩:=rel_of2 hS h0
 obtain ⟨m,hm,_⟩:=is_of u25 u3 n3 hS (tyV_slice u25 h1)
 obtain ⟨L,hL⟩:=sts_of hS (tyV_slice u87 h2)
 obtain ⟨vals,told,hT⟩:=ls_of hS (tyV_slice u90 h3)
 exact amendWalked hv hm hL hT
theorem walked_lifted (os : Os) (started : os.Started) (H : Type) (enc : TypeId × Value→H) :
  ReturnsInHanded {} Tryz.checked os 4 .any (Rows.amendWalkedSpec.pre6 enc Tryz.prog Tryz.f4 Rows.amendWalkedRow.domain false) (Rows.amendWalkedSpec.post enc Tryz.prog Tryz.f4 false true false false):=
 law_returns (C:=Tryz.checked) (G:=Z.G) (d:=7) (ts:=[24,25,26,29]) (tb:=4) tabOK extOK mixed started own (by kernel_rfl) Tryz.func4
  (ChangeSpec.witness6 (enc:=enc) (C:=Tryz.checked) false ⟨#[],#[.agg #[.int .i64 0,.slice none 0 0],.slice none 0 0,.slice none 0 0,.slice none 0 0],[]⟩ 8 (by kernel_rfl) (by kernel_rfl) (by kernel_rfl) (by kernel_rfl))
  laidOut rfl (by kernel_rfl) u4 (by kernel_rfl) (by
   intro t ht
   simp only [List.mem_cons,List.not_mem_nil,or_false] at ht
   rcases ht with rfl | rfl | rfl | rfl <;> exact ⟨by kernel_rfl,of_decide_eq_true (by kernel_rfl),by kernel_rfl⟩)
  (by
   intro ds hl
   match ds,hl with
   | [_,_,_,_],_=>exact ⟨rfl,rfl,rfl⟩)
  walked_law
theorem walked_j1 : Tryz.prog.inPlace 4=Rows.amendWalkedRow.inPlace:=by kernel_rfl
theorem walked_j2 : Tryz.prog.unfollowed 4=Rows.amendWalkedRow.unfollowed:=by kernel_rfl
theorem walked_j3 : Tryz.prog.recurses 4=Rows.amendWalkedRow.recurses:=by kernel_rfl
theorem walked_j4 : Tryz.prog.varsNamed 4=Rows.amendWalkedRow.named:=by kernel_rfl
theorem walked_k1 : (Tryz.prog.make == some Rows.amendWalkedRow.make)=true:=by kernel_rfl
theorem walked_k2 : (Rows.amendWalkedRow.lifted == Tryz.prog.liftsFinal)=true:=by kernel_rfl
theorem walked_k3 : Tryz.prog.stopsHeard=true:=by kernel_rfl
theorem walked_k4 : Tryz.prog.mayEnter=true:=by kernel_rfl
theorem walked_k5 : (Rows.amendWalkedRow.plainKeys == Tryz.prog.plainKeys)=true:=by kernel_rfl
theorem walked_closed : joinedFacts Tryz.prog 4 Tryz.f4 Rows.amendWalkedSpec Rows.amendWalkedRow=true:=by
 unfold joinedFacts
 rw [walked_j1,walked_j2,walked_j3,walked_j4,walked_k1,walked_k2,walked_k3,walked_k4,walked_k5]
 kernel_rfl
theorem walked_named : Tryz.prog.funcNamed Rows.amendWalkedRow.func=some 4:=by kernel_rfl
theorem walked_holds : Rows.AmendWalkedSaid:=
 OpenClaim.holds_of_wide 4 Tryz.f4 rfl rfl rfl rfl rfl rfl rfl ⟨rfl,rfl,rfl,rfl,rfl⟩ rfl rfl rfl rfl rfl walked_named Tryz.func4 walked_closed
  (of_decide_eq_true (by kernel_rfl)) (by unfold Func.isWrapper; first | (rw [if_pos (by decide +kernel)]; kernel_rfl) | (rw [if_neg (by decide +kernel)]; exact ⟨rfl,rfl⟩))
  (fun os started H enc _=>walked_lifted os started H enc)
#print axioms walked_holds
end Go.Proofs.YtnhaainnhmmbfaaGreat
