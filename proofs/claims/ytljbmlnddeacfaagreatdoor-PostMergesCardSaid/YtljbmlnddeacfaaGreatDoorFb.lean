/-
  They are the program's, part 1.
-/
import Derived.Test.YtljbmlnddeacfaaGreatDoorFa
import Derived.Test.YtljbmlnddeacfaaGreatDoorRows
import Derived.KernelRfl

set_option linter.all false
set_option linter.deprecated false

namespace Go.Gx.B
open Go.Gx Go.Proofs
set_option maxRecDepth 100000
theorem c7 : compF Tryz.prog Tryz.f7 = some f7 := by kernel_rfl
theorem c16 : compF Tryz.prog Tryz.f16 = some f16 := by kernel_rfl
theorem c17 : compF Tryz.prog Tryz.f17 = some f17 := by kernel_rfl
theorem c18 : compF Tryz.prog Tryz.f18 = some f18 := by kernel_rfl
theorem c19 : compF Tryz.prog Tryz.f19 = some f19 := by kernel_rfl
theorem c20 : compF Tryz.prog Tryz.f20 = some f20 := by kernel_rfl
theorem c22 : compF Tryz.prog Tryz.f22 = some f22 := by kernel_rfl
theorem c23 : compF Tryz.prog Tryz.f23 = some f23 := by kernel_rfl
theorem c25 : compF Tryz.prog Tryz.f25 = some f25 := by kernel_rfl
theorem c39 : compF Tryz.prog Tryz.f39 = some f39 := by kernel_rfl
theorem c40 : compF Tryz.prog Tryz.f40 = some f40 := by kernel_rfl
theorem c41 : compF Tryz.prog Tryz.f41 = some f41 := by kernel_rfl
theorem c60 : compF Tryz.prog Tryz.f60 = some f60 := by kernel_rfl
theorem c62 : compF Tryz.prog Tryz.f62 = some f62 := by kernel_rfl
theorem c63 : compF Tryz.prog Tryz.f63 = some f63 := by kernel_rfl
end Go.Gx.B

/-
  They are the program's, part 2.
-/
namespace Go.Gx.B
open Go.Gx Go.Proofs
set_option maxRecDepth 100000
theorem c64 : compF Tryz.prog Tryz.f64 = some f64 := by kernel_rfl
theorem c66 : compF Tryz.prog Tryz.f66 = some f66 := by kernel_rfl
theorem c68 : compF Tryz.prog Tryz.f68 = some f68 := by kernel_rfl
theorem c74 : compF Tryz.prog Tryz.f74 = some f74 := by kernel_rfl
theorem c75 : compF Tryz.prog Tryz.f75 = some f75 := by kernel_rfl
theorem c76 : compF Tryz.prog Tryz.f76 = some f76 := by kernel_rfl
theorem c77 : compF Tryz.prog Tryz.f77 = some f77 := by kernel_rfl
theorem c78 : compF Tryz.prog Tryz.f78 = some f78 := by kernel_rfl
theorem c79 : compF Tryz.prog Tryz.f79 = some f79 := by kernel_rfl
theorem c80 : compF Tryz.prog Tryz.f80 = some f80 := by kernel_rfl
theorem c81 : compF Tryz.prog Tryz.f81 = some f81 := by kernel_rfl
theorem c82 : compF Tryz.prog Tryz.f82 = some f82 := by kernel_rfl
theorem c83 : compF Tryz.prog Tryz.f83 = some f83 := by kernel_rfl
theorem c88 : compF Tryz.prog Tryz.f88 = some f88 := by kernel_rfl
theorem c89 : compF Tryz.prog Tryz.f89 = some f89 := by kernel_rfl
theorem c95 : compF Tryz.prog Tryz.f95 = some f95 := by kernel_rfl
theorem c100 : compF Tryz.prog Tryz.f100 = some f100 := by kernel_rfl
theorem c101 : compF Tryz.prog Tryz.f101 = some f101 := by kernel_rfl
theorem c110 : compF Tryz.prog Tryz.f110 = some f110 := by kernel_rfl
theorem c112 : compF Tryz.prog Tryz.f112 = some f112 := by kernel_rfl
end Go.Gx.B

/-
  They are the program's, part 3.
-/
namespace Go.Gx.B
open Go.Gx Go.Proofs
set_option maxRecDepth 100000
theorem c113 : compF Tryz.prog Tryz.f113 = some f113 := by kernel_rfl
theorem c114 : compF Tryz.prog Tryz.f114 = some f114 := by kernel_rfl
theorem c115 : compF Tryz.prog Tryz.f115 = some f115 := by kernel_rfl
theorem c119 : compF Tryz.prog Tryz.f119 = some f119 := by kernel_rfl
theorem c121 : compF Tryz.prog Tryz.f121 = some f121 := by kernel_rfl
theorem c123 : compF Tryz.prog Tryz.f123 = some f123 := by kernel_rfl
theorem c124 : compF Tryz.prog Tryz.f124 = some f124 := by kernel_rfl
theorem c125 : compF Tryz.prog Tryz.f125 = some f125 := by kernel_rfl
theorem c126 : compF Tryz.prog Tryz.f126 = some f126 := by kernel_rfl
theorem c127 : compF Tryz.prog Tryz.f127 = some f127 := by kernel_rfl
theorem c128 : compF Tryz.prog Tryz.f128 = some f128 := by kernel_rfl
theorem c129 : compF Tryz.prog Tryz.f129 = some f129 := by kernel_rfl
theorem c130 : compF Tryz.prog Tryz.f130 = some f130 := by kernel_rfl
theorem c131 : compF Tryz.prog Tryz.f131 = some f131 := by kernel_rfl
theorem c132 : compF Tryz.prog Tryz.f132 = some f132 := by kernel_rfl
theorem c133 : compF Tryz.prog Tryz.f133 = some f133 := by kernel_rfl
theorem c134 : compF Tryz.prog Tryz.f134 = some f134 := by kernel_rfl
theorem c135 : compF Tryz.prog Tryz.f135 = some f135 := by kernel_rfl
theorem c136 : compF Tryz.prog Tryz.f136 = some f136 := by kernel_rfl
theorem c137 : compF Tryz.prog Tryz.f137 = some f137 := by kernel_rfl
theorem c138 : compF Tryz.prog Tryz.f138 = some f138 := by kernel_rfl
theorem c142 : compF Tryz.prog Tryz.f142 = some f142 := by kernel_rfl
theorem c143 : compF Tryz.prog Tryz.f143 = some f143 := by kernel_rfl
theorem c144 : compF Tryz.prog Tryz.f144 = some f144 := by kernel_rfl
theorem c147 : compF Tryz.prog Tryz.f147 = some f147 := by kernel_rfl
theorem c150 : compF Tryz.prog Tryz.f150 = some f150 := by kernel_rfl
theorem c151 : compF Tryz.prog Tryz.f151 = some f151 := by kernel_rfl
theorem c152 : compF Tryz.prog Tryz.f152 = some f152 := by kernel_rfl
theorem c153 : compF Tryz.prog Tryz.f153 = some f153 := by kernel_rfl
theorem c154 : compF Tryz.prog Tryz.f154 = some f154 := by kernel_rfl
theorem c155 : compF Tryz.prog Tryz.f155 = some f155 := by kernel_rfl
theorem c156 : compF Tryz.prog Tryz.f156 = some f156 := by kernel_rfl
theorem c157 : compF Tryz.prog Tryz.f157 = some f157 := by kernel_rfl
theorem c158 : compF Tryz.prog Tryz.f158 = some f158 := by kernel_rfl
end Go.Gx.B

/-
  The table is the program's.
-/
namespace Go.Gx.B
open Go.Gx Go.Proofs
set_option maxRecDepth 100000
theorem tabOKa : TableOK Tryz.prog taba := by
  intro k f h
  unfold taba at h
  split at h
  · cases h; exact ⟨_, Tryz.func7, c7⟩
  · cases h; exact ⟨_, Tryz.func16, c16⟩
  · cases h; exact ⟨_, Tryz.func17, c17⟩
  · cases h; exact ⟨_, Tryz.func18, c18⟩
  · cases h; exact ⟨_, Tryz.func19, c19⟩
  · cases h; exact ⟨_, Tryz.func20, c20⟩
  · cases h; exact ⟨_, Tryz.func22, c22⟩
  · cases h; exact ⟨_, Tryz.func23, c23⟩
  · cases h; exact ⟨_, Tryz.func25, c25⟩
  · cases h; exact ⟨_, Tryz.func39, c39⟩
  · cases h; exact ⟨_, Tryz.func40, c40⟩
  · cases h; exact ⟨_, Tryz.func41, c41⟩
  · cases h; exact ⟨_, Tryz.func60, c60⟩
  · cases h; exact ⟨_, Tryz.func62, c62⟩
  · cases h; exact ⟨_, Tryz.func63, c63⟩
  · cases h
theorem tabOKb : TableOK Tryz.prog tabb := by
  intro k f h
  unfold tabb at h
  split at h
  · cases h; exact ⟨_, Tryz.func64, c64⟩
  · cases h; exact ⟨_, Tryz.func66, c66⟩
  · cases h; exact ⟨_, Tryz.func68, c68⟩
  · cases h; exact ⟨_, Tryz.func74, c74⟩
  · cases h; exact ⟨_, Tryz.func75, c75⟩
  · cases h; exact ⟨_, Tryz.func76, c76⟩
  · cases h; exact ⟨_, Tryz.func77, c77⟩
  · cases h; exact ⟨_, Tryz.func78, c78⟩
  · cases h; exact ⟨_, Tryz.func79, c79⟩
  · cases h; exact ⟨_, Tryz.func80, c80⟩
  · cases h; exact ⟨_, Tryz.func81, c81⟩
  · cases h; exact ⟨_, Tryz.func82, c82⟩
  · cases h; exact ⟨_, Tryz.func83, c83⟩
  · cases h; exact ⟨_, Tryz.func88, c88⟩
  · cases h; exact ⟨_, Tryz.func89, c89⟩
  · cases h; exact ⟨_, Tryz.func95, c95⟩
  · cases h; exact ⟨_, Tryz.func100, c100⟩
  · cases h; exact ⟨_, Tryz.func101, c101⟩
  · cases h; exact ⟨_, Tryz.func110, c110⟩
  · cases h; exact ⟨_, Tryz.func112, c112⟩
  · cases h
theorem tabOKc : TableOK Tryz.prog tabc := by
  intro k f h
  unfold tabc at h
  split at h
  · cases h; exact ⟨_, Tryz.func113, c113⟩
  · cases h; exact ⟨_, Tryz.func114, c114⟩
  · cases h; exact ⟨_, Tryz.func115, c115⟩
  · cases h; exact ⟨_, Tryz.func119, c119⟩
  · cases h; exact ⟨_, Tryz.func121, c121⟩
  · cases h; exact ⟨_, Tryz.func123, c123⟩
  · cases h; exact ⟨_, Tryz.func124, c124⟩
  · cases h; exact ⟨_, Tryz.func125, c125⟩
  · cases h; exact ⟨_, Tryz.func126, c126⟩
  · cases h; exact ⟨_, Tryz.func127, c127⟩
  · cases h; exact ⟨_, Tryz.func128, c128⟩
  · cases h; exact ⟨_, Tryz.func129, c129⟩
  · cases h; exact ⟨_, Tryz.func130, c130⟩
  · cases h; exact ⟨_, Tryz.func131, c131⟩
  · cases h; exact ⟨_, Tryz.func132, c132⟩
  · cases h; exact ⟨_, Tryz.func133, c133⟩
  · cases h; exact ⟨_, Tryz.func134, c134⟩
  · cases h; exact ⟨_, Tryz.func135, c135⟩
  · cases h; exact ⟨_, Tryz.func136, c136⟩
  · cases h; exact ⟨_, Tryz.func137, c137⟩
  · cases h; exact ⟨_, Tryz.func138, c138⟩
  · cases h; exact ⟨_, Tryz.func142, c142⟩
  · cases h; exact ⟨_, Tryz.func143, c143⟩
  · cases h; exact ⟨_, Tryz.func144, c144⟩
  · cases h; exact ⟨_, Tryz.func147, c147⟩
  · cases h; exact ⟨_, Tryz.func150, c150⟩
  · cases h; exact ⟨_, Tryz.func151, c151⟩
  · cases h; exact ⟨_, Tryz.func152, c152⟩
  · cases h; exact ⟨_, Tryz.func153, c153⟩
  · cases h; exact ⟨_, Tryz.func154, c154⟩
  · cases h; exact ⟨_, Tryz.func155, c155⟩
  · cases h; exact ⟨_, Tryz.func156, c156⟩
  · cases h; exact ⟨_, Tryz.func157, c157⟩
  · cases h; exact ⟨_, Tryz.func158, c158⟩
  · cases h
theorem orT_ok {P : Program} {a b : Nat → Option IFn} (ha : TableOK P a) (hb : TableOK P b) : TableOK P (orT a b) := by
  intro k f h
  unfold orT at h
  split at h
  · rename_i h1; cases h; exact ha k _ h1
  · exact hb k f h
theorem tabOK : TableOK Tryz.prog tab := orT_ok tabOKa (orT_ok tabOKb tabOKc)
end Go.Gx.B
