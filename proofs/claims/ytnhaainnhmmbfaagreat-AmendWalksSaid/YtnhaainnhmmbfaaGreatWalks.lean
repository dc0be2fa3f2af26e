/-
  AmendWalks returns true for every relation, order and list of steps, and its arguments read as before. No condition.
-/
import Derived.Test.YtnhaainnhmmbfaaGreatZc
import Derived.Test.YtnhaainnhmmbfaaGreatQo
set_option linter.all false
set_option linter.deprecated false
namespace Go.Proofs.YtnhaainnhmmbfaaGreat
open Go.Gx Go.Gx.Z Go.Proofs
open Go.ChangeShapes Go.WideShapes Go.ChangeAt Go.RowKit
set_option maxRecDepth 100000
theorem walks_law (S : AS) (vs : List Value) (hS : S.Valid) (h : TyArgs Tryz.prog S 7 [24,25,26] vs) : Gx.Call Z.G 3 vs S fun e _=>e=.ret (.bool true):=by
 obtain ⟨v0,_,rfl,h0,h⟩:=tyArgs_cons h
 obtain ⟨v1,_,rfl,h1,h⟩:=tyArgs_cons h
 obtain ⟨v2,_,rfl,h2,h⟩:=tyArgs_cons h
 obtain rfl:=tyArgs_nil h
 obtain ⟨N,l,va,rfl,hv,hN⟩:=rel_of2 hS h0
 obtain ⟨m,hm,_⟩:=is_of u25 u3 n3 hS (tyV_slice u25 h1)
 obtain ⟨L,hL⟩:=sts_of hS (tyV_slice u87 h2)
 exact amendWalks hv hm hL
theorem walks_lifted (os : Os) (started : os.Started) (H : Type) (enc : TypeId × Value→H) :
  ReturnsInHanded {} Tryz.checked os 3 .any (Rows.amendWalksSpec.pre6 enc Tryz.prog Tryz.f3 Rows.amendWalksRow.domain false) (Rows.amendWalksSpec.post enc Tryz.prog Tryz.f3 false true false false):=
 law_returns (C:=Tryz.checked) (G:=Z.G) (d:=7) (ts:=[24,25,26]) (tb:=4) tabOK extOK mixed started own (by kernel_rfl) Tryz.func3
  (ChangeSpec.witness6 (enc:=enc) (C:=Tryz.checked) false ⟨#[],#[.agg #[.int .i64 0,.slice none 0 0],.slice none 0 0,.slice none 0 0],[]⟩ 8 (by kernel_rfl) (by kernel_rfl) (by kernel_rfl) (by kernel_rfl))
  laidOut rfl (by kernel_rfl) u4 (by kernel_rfl) (by
   intro t ht
   simp only [List.mem_cons,List.not_mem_nil,or_false] at ht
   rcases ht with rfl | rfl | rfl <;> exact ⟨by kernel_rfl,of_decide_eq_true (by kernel_rfl),by kernel_rfl⟩)
  (by
   intro ds hl
   match ds,hl with
   | [_,_,_],_=>exact ⟨rfl,rfl,rfl⟩)
  walks_law
theorem walks_j1 : Tryz.prog.inPlace 3=Rows.amendWalksRow.inPlace:=by kernel_rfl
theorem walks_j2 : Tryz.prog.unfollowed 3=Rows.amendWalksRow.unfollowed:=by kernel_rfl
theorem walks_j3 : Tryz.prog.recurses 3=Rows.amendWalksRow.recurses:=by kernel_rfl
theorem walks_j4 : Tryz.prog.varsNamed 3=Rows.amendWalksRow.named:=by kernel_rfl
theorem walks_k1 : (Tryz.prog.make == some Rows.amendWalksRow.make)=true:=by kernel_rfl
theorem walks_k2 : (Rows.amendWalksRow.lifted == Tryz.prog.liftsFinal)=true:=by kernel_rfl
theorem walks_k3 : Tryz.prog.stopsHeard=true:=by kernel_rfl
theorem walks_k4 : Tryz.prog.mayEnter=true:=by kernel_rfl
theorem walks_k5 : (Rows.amendWalksRow.plainKeys == Tryz.prog.plainKeys)=true:=by kernel_rfl
theorem walks_closed : joinedFacts Tryz.prog 3 Tryz.f3 Rows.amendWalksSpec Rows.amendWalksRow=true:=by
 unfold joinedFacts
 rw [walks_j1,walks_j2,walks_j3,walks_j4,walks_k1,walks_k2,walks_k3,walks_k4,walks_k5]
 kernel_rfl
theorem walks_named : Tryz.prog.funcNamed Rows.amendWalksRow.func=some 3:=by kernel_rfl
theorem walks_holds : Rows.AmendWalksSaid:=
 OpenClaim.holds_of_wide 3 Tryz.f3 rfl rfl rfl rfl rfl rfl rfl ⟨rfl,rfl,rfl,rfl,rfl⟩ rfl rfl rfl rfl rfl walks_named Tryz.func3 walks_closed
  (of_decide_eq_true (by kernel_rfl)) (by unfold Func.isWrapper; first | (rw [if_pos (by decide +kernel)]; kernel_rfl) | (rw [if_neg (by decide +kernel)]; exact ⟨rfl,rfl⟩))
  (fun os started H enc _=>walks_lifted os started H enc)
#print axioms walks_holds
end Go.Proofs.YtnhaainnhmmbfaaGreat
