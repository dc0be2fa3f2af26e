/-
  They are the program's, part 2.
-/
import Derived.Test.YtamljcdnphjgaaaFc
set_option linter.all false
set_option linter.deprecated false
set_option linter.unusedSimpArgs false
set_option linter.unusedVariables false
namespace Go.Gx.A
open Go.Gx Go.Proofs
set_option maxRecDepth 100000
theorem c94 : compF Try.prog Try.f94=some f94:=by kernel_rfl
theorem c95 : compF Try.prog Try.f95=some f95:=by kernel_rfl
theorem c96 : compF Try.prog Try.f96=some f96:=by kernel_rfl
theorem c97 : compF Try.prog Try.f97=some f97:=by kernel_rfl
theorem c98 : compF Try.prog Try.f98=some f98:=by kernel_rfl
theorem c99 : compF Try.prog Try.f99=some f99:=by kernel_rfl
theorem c103 : compF Try.prog Try.f103=some f103:=by kernel_rfl
theorem c115 : compF Try.prog Try.f115=some f115:=by kernel_rfl
theorem c118 : compF Try.prog Try.f118=some f118:=by kernel_rfl
theorem c121 : compF Try.prog Try.f121=some f121:=by kernel_rfl
theorem c122 : compF Try.prog Try.f122=some f122:=by kernel_rfl
theorem c127 : compF Try.prog Try.f127=some f127:=by kernel_rfl
theorem c128 : compF Try.prog Try.f128=some f128:=by kernel_rfl
theorem c129 : compF Try.prog Try.f129=some f129:=by kernel_rfl
theorem c130 : compF Try.prog Try.f130=some f130:=by kernel_rfl
theorem c131 : compF Try.prog Try.f131=some f131:=by kernel_rfl
theorem c132 : compF Try.prog Try.f132=some f132:=by kernel_rfl
theorem c133 : compF Try.prog Try.f133=some f133:=by kernel_rfl
theorem c134 : compF Try.prog Try.f134=some f134:=by kernel_rfl
theorem c135 : compF Try.prog Try.f135=some f135:=by kernel_rfl
theorem c136 : compF Try.prog Try.f136=some f136:=by kernel_rfl
theorem c140 : compF Try.prog Try.f140=some f140:=by kernel_rfl
theorem c142 : compF Try.prog Try.f142=some f142:=by kernel_rfl
theorem c143 : compF Try.prog Try.f143=some f143:=by kernel_rfl
theorem c144 : compF Try.prog Try.f144=some f144:=by kernel_rfl
theorem c147 : compF Try.prog Try.f147=some f147:=by kernel_rfl
theorem c148 : compF Try.prog Try.f148=some f148:=by kernel_rfl
theorem c151 : compF Try.prog Try.f151=some f151:=by kernel_rfl
theorem c155 : compF Try.prog Try.f155=some f155:=by kernel_rfl
theorem c156 : compF Try.prog Try.f156=some f156:=by kernel_rfl
theorem c157 : compF Try.prog Try.f157=some f157:=by kernel_rfl
theorem c158 : compF Try.prog Try.f158=some f158:=by kernel_rfl
theorem c159 : compF Try.prog Try.f159=some f159:=by kernel_rfl
theorem c160 : compF Try.prog Try.f160=some f160:=by kernel_rfl
theorem c162 : compF Try.prog Try.f162=some f162:=by kernel_rfl
theorem c163 : compF Try.prog Try.f163=some f163:=by kernel_rfl
theorem c182 : compF Try.prog Try.f182=some f182:=by kernel_rfl
theorem c183 : compF Try.prog Try.f183=some f183:=by kernel_rfl
theorem c184 : compF Try.prog Try.f184=some f184:=by kernel_rfl
theorem c186 : compF Try.prog Try.f186=some f186:=by kernel_rfl
theorem c195 : compF Try.prog Try.f195=some f195:=by kernel_rfl
theorem c196 : compF Try.prog Try.f196=some f196:=by kernel_rfl

theorem tabOKa : TableOK Try.prog taba:=by
 intro k f h
 unfold taba at h
 split at h
 ·cases h; exact ⟨_,Try.func22,c22⟩
 ·cases h; exact ⟨_,Try.func23,c23⟩
 ·cases h; exact ⟨_,Try.func24,c24⟩
 ·cases h; exact ⟨_,Try.func26,c26⟩
 ·cases h; exact ⟨_,Try.func29,c29⟩
 ·cases h; exact ⟨_,Try.func31,c31⟩
 ·cases h; exact ⟨_,Try.func34,c34⟩
 ·cases h; exact ⟨_,Try.func37,c37⟩
 ·cases h; exact ⟨_,Try.func40,c40⟩
 ·cases h; exact ⟨_,Try.func58,c58⟩
 ·cases h; exact ⟨_,Try.func59,c59⟩
 ·cases h; exact ⟨_,Try.func66,c66⟩
 ·cases h; exact ⟨_,Try.func67,c67⟩
 ·cases h; exact ⟨_,Try.func68,c68⟩
 ·cases h; exact ⟨_,Try.func69,c69⟩
 ·cases h; exact ⟨_,Try.func72,c72⟩
 ·cases h; exact ⟨_,Try.func73,c73⟩
 ·cases h; exact ⟨_,Try.func74,c74⟩
 ·cases h; exact ⟨_,Try.func75,c75⟩
 ·cases h; exact ⟨_,Try.func76,c76⟩
 ·cases h; exact ⟨_,Try.func77,c77⟩
 ·cases h; exact ⟨_,Try.func84,c84⟩
 ·cases h; exact ⟨_,Try.func85,c85⟩
 ·cases h; exact ⟨_,Try.func88,c88⟩
 ·cases h; exact ⟨_,Try.func91,c91⟩
 ·cases h; exact ⟨_,Try.func93,c93⟩
 ·cases h
theorem tabOKb : TableOK Try.prog tabb:=by
 intro k f h
 unfold tabb at h
 split at h
 ·cases h; exact ⟨_,Try.func94,c94⟩
 ·cases h; exact ⟨_,Try.func95,c95⟩
 ·cases h; exact ⟨_,Try.func96,c96⟩
 ·cases h; exact ⟨_,Try.func97,c97⟩
 ·cases h; exact ⟨_,Try.func98,c98⟩
 ·cases h; exact ⟨_,Try.func99,c99⟩
 ·cases h; exact ⟨_,Try.func103,c103⟩
 ·cases h; exact ⟨_,Try.func115,c115⟩
 ·cases h; exact ⟨_,Try.func118,c118⟩
 ·cases h; exact ⟨_,Try.func121,c121⟩
 ·cases h; exact ⟨_,Try.func122,c122⟩
 ·cases h; exact ⟨_,Try.func127,c127⟩
 ·cases h; exact ⟨_,Try.func128,c128⟩
 ·cases h; exact ⟨_,Try.func129,c129⟩
 ·cases h; exact ⟨_,Try.func130,c130⟩
 ·cases h; exact ⟨_,Try.func131,c131⟩
 ·cases h; exact ⟨_,Try.func132,c132⟩
 ·cases h; exact ⟨_,Try.func133,c133⟩
 ·cases h; exact ⟨_,Try.func134,c134⟩
 ·cases h; exact ⟨_,Try.func135,c135⟩
 ·cases h; exact ⟨_,Try.func136,c136⟩
 ·cases h; exact ⟨_,Try.func140,c140⟩
 ·cases h; exact ⟨_,Try.func142,c142⟩
 ·cases h; exact ⟨_,Try.func143,c143⟩
 ·cases h; exact ⟨_,Try.func144,c144⟩
 ·cases h; exact ⟨_,Try.func147,c147⟩
 ·cases h; exact ⟨_,Try.func148,c148⟩
 ·cases h; exact ⟨_,Try.func151,c151⟩
 ·cases h; exact ⟨_,Try.func155,c155⟩
 ·cases h; exact ⟨_,Try.func156,c156⟩
 ·cases h; exact ⟨_,Try.func157,c157⟩
 ·cases h; exact ⟨_,Try.func158,c158⟩
 ·cases h; exact ⟨_,Try.func159,c159⟩
 ·cases h; exact ⟨_,Try.func160,c160⟩
 ·cases h; exact ⟨_,Try.func162,c162⟩
 ·cases h; exact ⟨_,Try.func163,c163⟩
 ·cases h; exact ⟨_,Try.func182,c182⟩
 ·cases h; exact ⟨_,Try.func183,c183⟩
 ·cases h; exact ⟨_,Try.func184,c184⟩
 ·cases h; exact ⟨_,Try.func186,c186⟩
 ·cases h; exact ⟨_,Try.func195,c195⟩
 ·cases h; exact ⟨_,Try.func196,c196⟩
 ·cases h
theorem orT_ok {P : Program} {a b : Nat→Option IFn} (ha : TableOK P a) (hb : TableOK P b) : TableOK P (orT a b):=by
 intro k f h
 unfold orT at h
 split at h
 ·rename_i h1; cases h; exact ha k _ h1
 ·exact hb k f h
theorem tabOK : TableOK Try.prog tab:=orT_ok tabOKa tabOKb

open Go.Gx Go.Proofs Go.Shelf
def ren : Ren:=⟨fun k=>if k=21 then 78 else if k=27 then 137 else if k=28 then 138 else if k=35 then 161 else if k=39 then 185 else k,fun t=>if t=22 then 25 else t,fun g=>g⟩
theorem mixed : Try.prog.follows .mixedOrders=true:=by kernel_rfl
theorem own : ownKnob Try.prog.godebug=none:=by kernel_rfl
theorem laidOut : laidOutB Try.prog=true:=by kernel_rfl
theorem lays21 : Lays2.n21 Try.prog ren where
 mixed:=mixed
 f21:=by kernel_rfl
 f27:=by kernel_rfl
 f28:=by kernel_rfl
 f35:=by kernel_rfl
 f39:=by kernel_rfl
 t0:=by kernel_rfl
 a0:=fun w=>by kernel_rfl
 z0:=fun w=>by kernel_rfl
 v0:=fun w=>by kernel_rfl
 t3:=by kernel_rfl
 a3:=fun w=>by kernel_rfl
 z3:=fun w=>by kernel_rfl
 v3:=fun w=>by kernel_rfl
 t4:=by kernel_rfl
 a4:=fun w=>by kernel_rfl
 z4:=fun w=>by kernel_rfl
 v4:=fun w=>by kernel_rfl
 t22:=by kernel_rfl
 a22:=fun w=>by kernel_rfl
 z22:=fun w=>by kernel_rfl
 v22:=fun w=>by kernel_rfl
 i3:=by kernel_rfl
theorem insX_ok : ExtOK Try.prog insX:=insV_ok (ρ:=ren) lays21
end Go.Gx.A
