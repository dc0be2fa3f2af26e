/-
  They are the program's, part 2.
-/
import Derived.Test.YtnhaainnhmmbfaaGreatFc
set_option linter.all false
set_option linter.deprecated false
namespace Go.Gx.Z
open Go.Gx Go.Proofs
set_option maxRecDepth 100000
theorem c54 : compF Tryz.prog Tryz.f54=some f54:=by kernel_rfl
theorem c55 : compF Tryz.prog Tryz.f55=some f55:=by kernel_rfl
theorem c56 : compF Tryz.prog Tryz.f56=some f56:=by kernel_rfl
theorem c57 : compF Tryz.prog Tryz.f57=some f57:=by kernel_rfl
theorem c58 : compF Tryz.prog Tryz.f58=some f58:=by kernel_rfl
theorem c59 : compF Tryz.prog Tryz.f59=some f59:=by kernel_rfl
theorem c60 : compF Tryz.prog Tryz.f60=some f60:=by kernel_rfl
theorem c61 : compF Tryz.prog Tryz.f61=some f61:=by kernel_rfl
theorem c62 : compF Tryz.prog Tryz.f62=some f62:=by kernel_rfl
theorem c63 : compF Tryz.prog Tryz.f63=some f63:=by kernel_rfl
theorem c64 : compF Tryz.prog Tryz.f64=some f64:=by kernel_rfl
theorem c65 : compF Tryz.prog Tryz.f65=some f65:=by kernel_rfl
theorem c67 : compF Tryz.prog Tryz.f67=some f67:=by kernel_rfl
theorem c68 : compF Tryz.prog Tryz.f68=some f68:=by kernel_rfl
theorem c69 : compF Tryz.prog Tryz.f69=some f69:=by kernel_rfl
theorem c70 : compF Tryz.prog Tryz.f70=some f70:=by kernel_rfl
theorem c71 : compF Tryz.prog Tryz.f71=some f71:=by kernel_rfl
theorem c72 : compF Tryz.prog Tryz.f72=some f72:=by kernel_rfl
theorem c73 : compF Tryz.prog Tryz.f73=some f73:=by kernel_rfl
theorem c74 : compF Tryz.prog Tryz.f74=some f74:=by kernel_rfl
theorem c75 : compF Tryz.prog Tryz.f75=some f75:=by kernel_rfl
theorem c76 : compF Tryz.prog Tryz.f76=some f76:=by kernel_rfl
theorem c79 : compF Tryz.prog Tryz.f79=some f79:=by kernel_rfl
theorem c80 : compF Tryz.prog Tryz.f80=some f80:=by kernel_rfl
theorem c81 : compF Tryz.prog Tryz.f81=some f81:=by kernel_rfl
theorem c82 : compF Tryz.prog Tryz.f82=some f82:=by kernel_rfl
theorem c83 : compF Tryz.prog Tryz.f83=some f83:=by kernel_rfl
theorem c84 : compF Tryz.prog Tryz.f84=some f84:=by kernel_rfl
theorem c85 : compF Tryz.prog Tryz.f85=some f85:=by kernel_rfl
theorem c86 : compF Tryz.prog Tryz.f86=some f86:=by kernel_rfl
theorem c87 : compF Tryz.prog Tryz.f87=some f87:=by kernel_rfl
theorem c89 : compF Tryz.prog Tryz.f89=some f89:=by kernel_rfl
theorem c90 : compF Tryz.prog Tryz.f90=some f90:=by kernel_rfl
theorem c91 : compF Tryz.prog Tryz.f91=some f91:=by kernel_rfl
theorem c92 : compF Tryz.prog Tryz.f92=some f92:=by kernel_rfl
theorem c93 : compF Tryz.prog Tryz.f93=some f93:=by kernel_rfl
theorem c95 : compF Tryz.prog Tryz.f95=some f95:=by kernel_rfl
theorem c96 : compF Tryz.prog Tryz.f96=some f96:=by kernel_rfl
theorem c97 : compF Tryz.prog Tryz.f97=some f97:=by kernel_rfl
theorem c98 : compF Tryz.prog Tryz.f98=some f98:=by kernel_rfl
theorem c99 : compF Tryz.prog Tryz.f99=some f99:=by kernel_rfl
theorem c100 : compF Tryz.prog Tryz.f100=some f100:=by kernel_rfl
theorem c102 : compF Tryz.prog Tryz.f102=some f102:=by kernel_rfl
theorem c105 : compF Tryz.prog Tryz.f105=some f105:=by kernel_rfl
theorem c106 : compF Tryz.prog Tryz.f106=some f106:=by kernel_rfl

theorem tabOKa : TableOK Tryz.prog taba:=by
 intro k f h
 unfold taba at h
 split at h
 ·cases h; exact ⟨_,Tryz.func4,c4⟩
 ·cases h; exact ⟨_,Tryz.func5,c5⟩
 ·cases h; exact ⟨_,Tryz.func6,c6⟩
 ·cases h; exact ⟨_,Tryz.func10,c10⟩
 ·cases h; exact ⟨_,Tryz.func11,c11⟩
 ·cases h; exact ⟨_,Tryz.func12,c12⟩
 ·cases h; exact ⟨_,Tryz.func13,c13⟩
 ·cases h; exact ⟨_,Tryz.func14,c14⟩
 ·cases h; exact ⟨_,Tryz.func15,c15⟩
 ·cases h; exact ⟨_,Tryz.func16,c16⟩
 ·cases h; exact ⟨_,Tryz.func17,c17⟩
 ·cases h; exact ⟨_,Tryz.func18,c18⟩
 ·cases h; exact ⟨_,Tryz.func20,c20⟩
 ·cases h; exact ⟨_,Tryz.func21,c21⟩
 ·cases h; exact ⟨_,Tryz.func23,c23⟩
 ·cases h; exact ⟨_,Tryz.func24,c24⟩
 ·cases h; exact ⟨_,Tryz.func25,c25⟩
 ·cases h; exact ⟨_,Tryz.func26,c26⟩
 ·cases h; exact ⟨_,Tryz.func27,c27⟩
 ·cases h; exact ⟨_,Tryz.func29,c29⟩
 ·cases h; exact ⟨_,Tryz.func30,c30⟩
 ·cases h; exact ⟨_,Tryz.func31,c31⟩
 ·cases h; exact ⟨_,Tryz.func32,c32⟩
 ·cases h; exact ⟨_,Tryz.func33,c33⟩
 ·cases h; exact ⟨_,Tryz.func34,c34⟩
 ·cases h; exact ⟨_,Tryz.func35,c35⟩
 ·cases h; exact ⟨_,Tryz.func36,c36⟩
 ·cases h; exact ⟨_,Tryz.func37,c37⟩
 ·cases h; exact ⟨_,Tryz.func38,c38⟩
 ·cases h; exact ⟨_,Tryz.func39,c39⟩
 ·cases h; exact ⟨_,Tryz.func40,c40⟩
 ·cases h; exact ⟨_,Tryz.func41,c41⟩
 ·cases h; exact ⟨_,Tryz.func42,c42⟩
 ·cases h; exact ⟨_,Tryz.func43,c43⟩
 ·cases h; exact ⟨_,Tryz.func44,c44⟩
 ·cases h; exact ⟨_,Tryz.func45,c45⟩
 ·cases h; exact ⟨_,Tryz.func46,c46⟩
 ·cases h; exact ⟨_,Tryz.func47,c47⟩
 ·cases h; exact ⟨_,Tryz.func48,c48⟩
 ·cases h; exact ⟨_,Tryz.func49,c49⟩
 ·cases h; exact ⟨_,Tryz.func50,c50⟩
 ·cases h; exact ⟨_,Tryz.func52,c52⟩
 ·cases h; exact ⟨_,Tryz.func53,c53⟩
 ·cases h
theorem tabOKb : TableOK Tryz.prog tabb:=by
 intro k f h
 unfold tabb at h
 split at h
 ·cases h; exact ⟨_,Tryz.func54,c54⟩
 ·cases h; exact ⟨_,Tryz.func55,c55⟩
 ·cases h; exact ⟨_,Tryz.func56,c56⟩
 ·cases h; exact ⟨_,Tryz.func57,c57⟩
 ·cases h; exact ⟨_,Tryz.func58,c58⟩
 ·cases h; exact ⟨_,Tryz.func59,c59⟩
 ·cases h; exact ⟨_,Tryz.func60,c60⟩
 ·cases h; exact ⟨_,Tryz.func61,c61⟩
 ·cases h; exact ⟨_,Tryz.func62,c62⟩
 ·cases h; exact ⟨_,Tryz.func63,c63⟩
 ·cases h; exact ⟨_,Tryz.func64,c64⟩
 ·cases h; exact ⟨_,Tryz.func65,c65⟩
 ·cases h; exact ⟨_,Tryz.func67,c67⟩
 ·cases h; exact ⟨_,Tryz.func68,c68⟩
 ·cases h; exact ⟨_,Tryz.func69,c69⟩
 ·cases h; exact ⟨_,Tryz.func70,c70⟩
 ·cases h; exact ⟨_,Tryz.func71,c71⟩
 ·cases h; exact ⟨_,Tryz.func72,c72⟩
 ·cases h; exact ⟨_,Tryz.func73,c73⟩
 ·cases h; exact ⟨_,Tryz.func74,c74⟩
 ·cases h; exact ⟨_,Tryz.func75,c75⟩
 ·cases h; exact ⟨_,Tryz.func76,c76⟩
 ·cases h; exact ⟨_,Tryz.func79,c79⟩
 ·cases h; exact ⟨_,Tryz.func80,c80⟩
 ·cases h; exact ⟨_,Tryz.func81,c81⟩
 ·cases h; exact ⟨_,Tryz.func82,c82⟩
 ·cases h; exact ⟨_,Tryz.func83,c83⟩
 ·cases h; exact ⟨_,Tryz.func84,c84⟩
 ·cases h; exact ⟨_,Tryz.func85,c85⟩
 ·cases h; exact ⟨_,Tryz.func86,c86⟩
 ·cases h; exact ⟨_,Tryz.func87,c87⟩
 ·cases h; exact ⟨_,Tryz.func89,c89⟩
 ·cases h; exact ⟨_,Tryz.func90,c90⟩
 ·cases h; exact ⟨_,Tryz.func91,c91⟩
 ·cases h; exact ⟨_,Tryz.func92,c92⟩
 ·cases h; exact ⟨_,Tryz.func93,c93⟩
 ·cases h; exact ⟨_,Tryz.func95,c95⟩
 ·cases h; exact ⟨_,Tryz.func96,c96⟩
 ·cases h; exact ⟨_,Tryz.func97,c97⟩
 ·cases h; exact ⟨_,Tryz.func98,c98⟩
 ·cases h; exact ⟨_,Tryz.func99,c99⟩
 ·cases h; exact ⟨_,Tryz.func100,c100⟩
 ·cases h; exact ⟨_,Tryz.func102,c102⟩
 ·cases h; exact ⟨_,Tryz.func105,c105⟩
 ·cases h; exact ⟨_,Tryz.func106,c106⟩
 ·cases h
theorem orT_ok {P : Program} {a b : Nat→Option IFn} (ha : TableOK P a) (hb : TableOK P b) : TableOK P (orT a b):=by
 intro k f h
 unfold orT at h
 split at h
 ·rename_i h1; cases h; exact ha k _ h1
 ·exact hb k f h
theorem tabOK : TableOK Tryz.prog tab:=orT_ok tabOKa tabOKb

open Go.Gx Go.Proofs Go.Shelf
def ren : Ren:=⟨fun k=>if k=21 then 51 else if k=27 then 77 else if k=28 then 78 else if k=35 then 94 else if k=39 then 101 else k,fun t=>if t=22 then 25 else t,fun g=>g⟩
theorem mixed : Tryz.prog.follows .mixedOrders=true:=by kernel_rfl
theorem own : ownKnob Tryz.prog.godebug=none:=by kernel_rfl
theorem laidOut : laidOutB Tryz.prog=true:=by kernel_rfl
theorem lays21 : Lays2.n21 Tryz.prog ren where
 mixed:=mixed
 f21:=by kernel_rfl
 f27:=by kernel_rfl
 f28:=by kernel_rfl
 f35:=by kernel_rfl
 f39:=by kernel_rfl
 t0:=by kernel_rfl
 a0:=fun w=>by kernel_rfl
 z0:=fun w=>by kernel_rfl
 v0:=fun w=>by kernel_rfl
 t3:=by kernel_rfl
 a3:=fun w=>by kernel_rfl
 z3:=fun w=>by kernel_rfl
 v3:=fun w=>by kernel_rfl
 t4:=by kernel_rfl
 a4:=fun w=>by kernel_rfl
 z4:=fun w=>by kernel_rfl
 v4:=fun w=>by kernel_rfl
 t22:=by kernel_rfl
 a22:=fun w=>by kernel_rfl
 z22:=fun w=>by kernel_rfl
 v22:=fun w=>by kernel_rfl
 i3:=by kernel_rfl
theorem insX_ok : ExtOK Tryz.prog insX:=insV_ok (ρ:=ren) lays21
end Go.Gx.Z
