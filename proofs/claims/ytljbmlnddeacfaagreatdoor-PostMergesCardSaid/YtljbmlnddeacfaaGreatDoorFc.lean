/-
  What the library's functions are in this seat.
-/
import Derived.Test.YtljbmlnddeacfaaGreatDoorProg
import Derived.KernelRfl
import GoSem.ClaimDataLaid
import Derived.ProofKit
import Derived.Shelf.Lays
import Derived.Shelf.LaysM
import Derived.Shelf.LaysC
import Derived.Shelf.SlLaysF0
import Derived.Shelf.SlLaysC2
import Derived.Shelf.Strings.BuilderX

set_option linter.all false
set_option linter.deprecated false

namespace Go.Gx.B
open Go Go.Proofs Go.Shelf
set_option maxRecDepth 100000
set_option linter.all false
theorem mixed : Tryz.prog.follows .mixedOrders = true := by kernel_rfl
theorem own : ownKnob Tryz.prog.godebug = none := by kernel_rfl
theorem laidOut : laidOutB Tryz.prog = true := by kernel_rfl
def ren : Ren := ⟨fun k => (([(103, 128), (129, 169), (137, 151), (169, 139), (171, 125), (172, 152), (205, 203), (206, 172), (210, 149), (217, 173), (219, 170), (224, 183), (225, 182), (240, 159), (243, 148), (244, 174), (245, 175), (246, 171), (247, 190), (266, 189), (267, 184), (276, 176), (279, 191), (280, 192), (281, 193), (282, 194), (283, 185), (284, 186), (285, 187), (286, 188), (287, 201), (314, 196), (316, 202), (317, 197), (318, 198), (319, 199), (320, 200), (321, 206), (322, 207), (337, 204), (338, 205)] : List (Nat × Nat)).lookup k).getD k, fun k => (([(24, 191), (37, 107), (46, 55), (51, 227), (53, 229), (70, 201), (72, 203), (75, 205), (76, 206), (80, 117), (85, 247), (127, 218), (143, 267), (145, 269), (146, 255), (164, 234), (167, 246), (168, 249), (171, 242), (173, 244), (175, 260), (210, 264), (212, 258), (213, 259), (232, 270), (233, 152)] : List (Nat × Nat)).lookup k).getD k, fun k => (([(1, 0), (15, 2), (16, 3), (17, 1), (18, 4), (19, 5)] : List (Nat × Nat)).lookup k).getD k⟩
theorem l171a : Lays.n171 Tryz.prog ren where
  mixed := by kernel_rfl
  f129 := by kernel_rfl
  f171 := by kernel_rfl
  f243 := by kernel_rfl
  f246 := by kernel_rfl
  f283 := by kernel_rfl
  f284 := by kernel_rfl
  f285 := by kernel_rfl
  f286 := by kernel_rfl
  f317 := by kernel_rfl
  f318 := by kernel_rfl
  f319 := by kernel_rfl
  f320 := by kernel_rfl
  f337 := by kernel_rfl
  f338 := by kernel_rfl
  t0 := by kernel_rfl
  a0 := fun w => by kernel_rfl
  z0 := fun w => by kernel_rfl
  v0 := fun w => by kernel_rfl
  t2 := by kernel_rfl
  a2 := fun w => by kernel_rfl
  z2 := fun w => by kernel_rfl
  v2 := fun w => by kernel_rfl
  t3 := by kernel_rfl
  a3 := fun w => by kernel_rfl
  z3 := fun w => by kernel_rfl
  v3 := fun w => by kernel_rfl
  t4 := by kernel_rfl
  a4 := fun w => by kernel_rfl
  z4 := fun w => by kernel_rfl
  v4 := fun w => by kernel_rfl
  t5 := by kernel_rfl
  a5 := fun w => by kernel_rfl
  z5 := fun w => by kernel_rfl
  v5 := fun w => by kernel_rfl
  t9 := by kernel_rfl
  a9 := fun w => by kernel_rfl
  z9 := fun w => by kernel_rfl
  v9 := fun w => by kernel_rfl
  t20 := by kernel_rfl
  a20 := fun w => by kernel_rfl
  z20 := fun w => by kernel_rfl
  v20 := fun w => by kernel_rfl
  t37 := by kernel_rfl
  a37 := fun w => by kernel_rfl
  z37 := fun w => by kernel_rfl
  v37 := fun w => by kernel_rfl
  t46 := by kernel_rfl
  a46 := fun w => by kernel_rfl
  z46 := fun w => by kernel_rfl
  v46 := fun w => by kernel_rfl
  t51 := by kernel_rfl
  a51 := fun w => by kernel_rfl
  z51 := fun w => by kernel_rfl
  v51 := fun w => by kernel_rfl
  t53 := by kernel_rfl
  a53 := fun w => by kernel_rfl
  z53 := fun w => by kernel_rfl
  v53 := fun w => by kernel_rfl
  t171 := by kernel_rfl
  a171 := fun w => by kernel_rfl
  z171 := fun w => by kernel_rfl
  v171 := fun w => by kernel_rfl
  t173 := by kernel_rfl
  a173 := fun w => by kernel_rfl
  z173 := fun w => by kernel_rfl
  v173 := fun w => by kernel_rfl
  t212 := by kernel_rfl
  a212 := fun w => by kernel_rfl
  z212 := fun w => by kernel_rfl
  v212 := fun w => by kernel_rfl
  t213 := by kernel_rfl
  a213 := fun w => by kernel_rfl
  z213 := fun w => by kernel_rfl
  t232 := by kernel_rfl
  a232 := fun w => by kernel_rfl
  z232 := fun w => by kernel_rfl
  v232 := fun w => by kernel_rfl
  t233 := by kernel_rfl
  a233 := fun w => by kernel_rfl
  z233 := fun w => by kernel_rfl
  v233 := fun w => by kernel_rfl
  g17 := by kernel_rfl
  g18 := by kernel_rfl
  g19 := by kernel_rfl
theorem l171 : LaysM.n171 Tryz.prog ren where
  ton171 := l171a
  i0 := by kernel_rfl
  i2 := by kernel_rfl
  i3 := by kernel_rfl
  i4 := by kernel_rfl
  i5 := by kernel_rfl
  i9 := by kernel_rfl
  i20 := by kernel_rfl
  i37 := by kernel_rfl
  i46 := by kernel_rfl
  i51 := by kernel_rfl
  i53 := by kernel_rfl
  i171 := by kernel_rfl
  i173 := by kernel_rfl
  i212 := by kernel_rfl
  i232 := by kernel_rfl
  i233 := by kernel_rfl
  m17 := by kernel_rfl
  m18 := by kernel_rfl
  m19 := by kernel_rfl
theorem l172a : Lays.n172 Tryz.prog ren where
  mixed := by kernel_rfl
  f129 := by kernel_rfl
  f171 := by kernel_rfl
  f172 := by kernel_rfl
  f205 := by kernel_rfl
  f243 := by kernel_rfl
  f244 := by kernel_rfl
  f245 := by kernel_rfl
  f246 := by kernel_rfl
  f247 := by kernel_rfl
  f279 := by kernel_rfl
  f280 := by kernel_rfl
  f281 := by kernel_rfl
  f282 := by kernel_rfl
  f283 := by kernel_rfl
  f284 := by kernel_rfl
  f285 := by kernel_rfl
  f286 := by kernel_rfl
  f287 := by kernel_rfl
  f316 := by kernel_rfl
  f317 := by kernel_rfl
  f318 := by kernel_rfl
  f319 := by kernel_rfl
  f320 := by kernel_rfl
  f321 := by kernel_rfl
  f322 := by kernel_rfl
  f337 := by kernel_rfl
  f338 := by kernel_rfl
  t0 := by kernel_rfl
  a0 := fun w => by kernel_rfl
  z0 := fun w => by kernel_rfl
  v0 := fun w => by kernel_rfl
  t2 := by kernel_rfl
  a2 := fun w => by kernel_rfl
  z2 := fun w => by kernel_rfl
  v2 := fun w => by kernel_rfl
  t3 := by kernel_rfl
  a3 := fun w => by kernel_rfl
  z3 := fun w => by kernel_rfl
  v3 := fun w => by kernel_rfl
  t4 := by kernel_rfl
  a4 := fun w => by kernel_rfl
  z4 := fun w => by kernel_rfl
  v4 := fun w => by kernel_rfl
  t5 := by kernel_rfl
  a5 := fun w => by kernel_rfl
  z5 := fun w => by kernel_rfl
  v5 := fun w => by kernel_rfl
  t9 := by kernel_rfl
  a9 := fun w => by kernel_rfl
  z9 := fun w => by kernel_rfl
  v9 := fun w => by kernel_rfl
  t20 := by kernel_rfl
  a20 := fun w => by kernel_rfl
  z20 := fun w => by kernel_rfl
  v20 := fun w => by kernel_rfl
  t21 := by kernel_rfl
  a21 := fun w => by kernel_rfl
  z21 := fun w => by kernel_rfl
  v21 := fun w => by kernel_rfl
  t37 := by kernel_rfl
  a37 := fun w => by kernel_rfl
  z37 := fun w => by kernel_rfl
  v37 := fun w => by kernel_rfl
  t46 := by kernel_rfl
  a46 := fun w => by kernel_rfl
  z46 := fun w => by kernel_rfl
  v46 := fun w => by kernel_rfl
  t51 := by kernel_rfl
  a51 := fun w => by kernel_rfl
  z51 := fun w => by kernel_rfl
  v51 := fun w => by kernel_rfl
  t53 := by kernel_rfl
  a53 := fun w => by kernel_rfl
  z53 := fun w => by kernel_rfl
  v53 := fun w => by kernel_rfl
  t75 := by kernel_rfl
  a75 := fun w => by kernel_rfl
  z75 := fun w => by kernel_rfl
  v75 := fun w => by kernel_rfl
  t76 := by kernel_rfl
  a76 := fun w => by kernel_rfl
  z76 := fun w => by kernel_rfl
  v76 := fun w => by kernel_rfl
  t85 := by kernel_rfl
  a85 := fun w => by kernel_rfl
  z85 := fun w => by kernel_rfl
  v85 := fun w => by kernel_rfl
  t127 := by kernel_rfl
  a127 := fun w => by kernel_rfl
  z127 := fun w => by kernel_rfl
  v127 := fun w => by kernel_rfl
  t143 := by kernel_rfl
  a143 := fun w => by kernel_rfl
  z143 := fun w => by kernel_rfl
  v143 := fun w => by kernel_rfl
  t145 := by kernel_rfl
  a145 := fun w => by kernel_rfl
  z145 := fun w => by kernel_rfl
  v145 := fun w => by kernel_rfl
  t167 := by kernel_rfl
  a167 := fun w => by kernel_rfl
  z167 := fun w => by kernel_rfl
  v167 := fun w => by kernel_rfl
  t168 := by kernel_rfl
  a168 := fun w => by kernel_rfl
  z168 := fun w => by kernel_rfl
  v168 := fun w => by kernel_rfl
  t171 := by kernel_rfl
  a171 := fun w => by kernel_rfl
  z171 := fun w => by kernel_rfl
  v171 := fun w => by kernel_rfl
  t173 := by kernel_rfl
  a173 := fun w => by kernel_rfl
  z173 := fun w => by kernel_rfl
  v173 := fun w => by kernel_rfl
  t175 := by kernel_rfl
  a175 := fun w => by kernel_rfl
  z175 := fun w => by kernel_rfl
  v175 := fun w => by kernel_rfl
  t210 := by kernel_rfl
  a210 := fun w => by kernel_rfl
  z210 := fun w => by kernel_rfl
  v210 := fun w => by kernel_rfl
  t212 := by kernel_rfl
  a212 := fun w => by kernel_rfl
  z212 := fun w => by kernel_rfl
  v212 := fun w => by kernel_rfl
  t213 := by kernel_rfl
  a213 := fun w => by kernel_rfl
  z213 := fun w => by kernel_rfl
  t232 := by kernel_rfl
  a232 := fun w => by kernel_rfl
  z232 := fun w => by kernel_rfl
  v232 := fun w => by kernel_rfl
  t233 := by kernel_rfl
  a233 := fun w => by kernel_rfl
  z233 := fun w => by kernel_rfl
  v233 := fun w => by kernel_rfl
  g15 := by kernel_rfl
  g16 := by kernel_rfl
  g17 := by kernel_rfl
  g18 := by kernel_rfl
  g19 := by kernel_rfl
theorem l172b : LaysM.n172 Tryz.prog ren where
  ton172 := l172a
  t80 := by kernel_rfl
  a80 := fun w => by kernel_rfl
  z80 := fun w => by kernel_rfl
  v80 := fun w => by kernel_rfl
  i0 := by kernel_rfl
  i2 := by kernel_rfl
  i3 := by kernel_rfl
  i4 := by kernel_rfl
  i5 := by kernel_rfl
  i9 := by kernel_rfl
  i20 := by kernel_rfl
  i21 := by kernel_rfl
  i37 := by kernel_rfl
  i46 := by kernel_rfl
  i51 := by kernel_rfl
  i53 := by kernel_rfl
  i75 := by kernel_rfl
  i76 := by kernel_rfl
  i80 := by kernel_rfl
  i85 := by kernel_rfl
  i127 := by kernel_rfl
  i143 := by kernel_rfl
  i145 := by kernel_rfl
  i167 := by kernel_rfl
  i168 := by kernel_rfl
  i171 := by kernel_rfl
  i173 := by kernel_rfl
  i175 := by kernel_rfl
  i210 := by kernel_rfl
  i212 := by kernel_rfl
  i232 := by kernel_rfl
  i233 := by kernel_rfl
  m15 := by kernel_rfl
  m16 := by kernel_rfl
  m17 := by kernel_rfl
  m18 := by kernel_rfl
  m19 := by kernel_rfl
theorem l172 : LaysC.n172 Tryz.prog ren where
  toM := l172b
  c0 := by kernel_rfl
  c2 := by kernel_rfl
  c3 := by kernel_rfl
  c4 := by kernel_rfl
  c5 := by kernel_rfl
  c9 := by kernel_rfl
  c20 := by kernel_rfl
  c21 := by kernel_rfl
  c37 := by kernel_rfl
  c46 := by kernel_rfl
  c51 := by kernel_rfl
  c53 := by kernel_rfl
  c75 := by kernel_rfl
  c76 := by kernel_rfl
  c80 := by kernel_rfl
  c85 := by kernel_rfl
  c127 := by kernel_rfl
  c143 := by kernel_rfl
  c145 := by kernel_rfl
  c167 := by kernel_rfl
  c168 := by kernel_rfl
  c171 := by kernel_rfl
  c173 := by kernel_rfl
  c175 := by kernel_rfl
  c210 := by kernel_rfl
  c212 := by kernel_rfl
  c213 := by kernel_rfl
  c232 := by kernel_rfl
  c233 := by kernel_rfl
theorem l137 : Lays.n137 Tryz.prog ren where
  mixed := by kernel_rfl
  f137 := by kernel_rfl
  f217 := by kernel_rfl
  f266 := by kernel_rfl
  t3 := by kernel_rfl
  a3 := fun w => by kernel_rfl
  z3 := fun w => by kernel_rfl
  v3 := fun w => by kernel_rfl
  t5 := by kernel_rfl
  a5 := fun w => by kernel_rfl
  z5 := fun w => by kernel_rfl
  v5 := fun w => by kernel_rfl
  t9 := by kernel_rfl
  a9 := fun w => by kernel_rfl
  z9 := fun w => by kernel_rfl
  v9 := fun w => by kernel_rfl
theorem l103 : Lays.n103 Tryz.prog ren where
  mixed := by kernel_rfl
  f103 := by kernel_rfl
  f206 := by kernel_rfl
  f210 := by kernel_rfl
  t3 := by kernel_rfl
  a3 := fun w => by kernel_rfl
  z3 := fun w => by kernel_rfl
  v3 := fun w => by kernel_rfl
  t4 := by kernel_rfl
  a4 := fun w => by kernel_rfl
  z4 := fun w => by kernel_rfl
  v4 := fun w => by kernel_rfl
  t9 := by kernel_rfl
  a9 := fun w => by kernel_rfl
  z9 := fun w => by kernel_rfl
  v9 := fun w => by kernel_rfl
  t24 := by kernel_rfl
  a24 := fun w => by kernel_rfl
  z24 := fun w => by kernel_rfl
  v24 := fun w => by kernel_rfl
theorem l219 : Lays.n219 Tryz.prog ren where
  mixed := by kernel_rfl
  f217 := by kernel_rfl
  f219 := by kernel_rfl
  f224 := by kernel_rfl
  f225 := by kernel_rfl
  f266 := by kernel_rfl
  f267 := by kernel_rfl
  f314 := by kernel_rfl
  t3 := by kernel_rfl
  a3 := fun w => by kernel_rfl
  z3 := fun w => by kernel_rfl
  v3 := fun w => by kernel_rfl
  t4 := by kernel_rfl
  a4 := fun w => by kernel_rfl
  z4 := fun w => by kernel_rfl
  v4 := fun w => by kernel_rfl
  t5 := by kernel_rfl
  a5 := fun w => by kernel_rfl
  z5 := fun w => by kernel_rfl
  v5 := fun w => by kernel_rfl
  t9 := by kernel_rfl
  a9 := fun w => by kernel_rfl
  z9 := fun w => by kernel_rfl
  v9 := fun w => by kernel_rfl
  t46 := by kernel_rfl
  a46 := fun w => by kernel_rfl
  z46 := fun w => by kernel_rfl
  v46 := fun w => by kernel_rfl
  t51 := by kernel_rfl
  a51 := fun w => by kernel_rfl
  z51 := fun w => by kernel_rfl
  v51 := fun w => by kernel_rfl
  t146 := by kernel_rfl
  a146 := fun w => by kernel_rfl
  z146 := fun w => by kernel_rfl
  v146 := fun w => by kernel_rfl
  g1 := by kernel_rfl
theorem l240 : Lays.n240 Tryz.prog ren where
  mixed := by kernel_rfl
  f240 := by kernel_rfl
  f276 := by kernel_rfl
  t0 := by kernel_rfl
  a0 := fun w => by kernel_rfl
  z0 := fun w => by kernel_rfl
  v0 := fun w => by kernel_rfl
  t4 := by kernel_rfl
  a4 := fun w => by kernel_rfl
  z4 := fun w => by kernel_rfl
  v4 := fun w => by kernel_rfl
  t9 := by kernel_rfl
  a9 := fun w => by kernel_rfl
  z9 := fun w => by kernel_rfl
  v9 := fun w => by kernel_rfl
  t20 := by kernel_rfl
  a20 := fun w => by kernel_rfl
  z20 := fun w => by kernel_rfl
  v20 := fun w => by kernel_rfl
  t70 := by kernel_rfl
  a70 := fun w => by kernel_rfl
  z70 := fun w => by kernel_rfl
  v70 := fun w => by kernel_rfl
  t72 := by kernel_rfl
  a72 := fun w => by kernel_rfl
  z72 := fun w => by kernel_rfl
  v72 := fun w => by kernel_rfl
  t164 := by kernel_rfl
  a164 := fun w => by kernel_rfl
  z164 := fun w => by kernel_rfl
  v164 := fun w => by kernel_rfl
theorem l169 : Lays.n169 Tryz.prog ren where
  mixed := by kernel_rfl
  f169 := by kernel_rfl
  t0 := by kernel_rfl
  a0 := fun w => by kernel_rfl
  z0 := fun w => by kernel_rfl
  v0 := fun w => by kernel_rfl
  t3 := by kernel_rfl
  a3 := fun w => by kernel_rfl
  z3 := fun w => by kernel_rfl
  v3 := fun w => by kernel_rfl
  t9 := by kernel_rfl
  a9 := fun w => by kernel_rfl
  z9 := fun w => by kernel_rfl
  v9 := fun w => by kernel_rfl
  t37 := by kernel_rfl
  a37 := fun w => by kernel_rfl
  z37 := fun w => by kernel_rfl
  v37 := fun w => by kernel_rfl
  t70 := by kernel_rfl
  a70 := fun w => by kernel_rfl
  z70 := fun w => by kernel_rfl
  v70 := fun w => by kernel_rfl
  t72 := by kernel_rfl
  a72 := fun w => by kernel_rfl
  z72 := fun w => by kernel_rfl
  v72 := fun w => by kernel_rfl
  t127 := by kernel_rfl
  a127 := fun w => by kernel_rfl
  z127 := fun w => by kernel_rfl
  v127 := fun w => by kernel_rfl
theorem xB : Builder.X72 Tryz.prog ren where
  sizeBuilder := by kernel_rfl
  liesBuilder := by kernel_rfl
theorem xE : Builder.Extra Tryz.prog ren where
  toX72 := xB
  t5 := by kernel_rfl
  a5 := fun w => by kernel_rfl
  z5 := fun w => by kernel_rfl
  v5 := fun w => by kernel_rfl
  infoByte := by kernel_rfl
  cellsByte := by kernel_rfl
  sizeByte := by kernel_rfl
  neB5 := by decide
def renN : Ren := ⟨fun k => (([(6, 118), (14, 145), (15, 146), (20, 160), (21, 161), (22, 162), (23, 163), (24, 164), (25, 165), (26, 166), (27, 167), (28, 168), (29, 169), (46, 177), (47, 178), (48, 179), (49, 180), (50, 181), (57, 195)] : List (Nat × Nat)).lookup k).getD k, fun k => (([(22, 23), (24, 104), (25, 138), (39, 55), (45, 220), (46, 221), (50, 150), (53, 227), (55, 229), (66, 236), (70, 240), (76, 252), (77, 253)] : List (Nat × Nat)).lookup k).getD k, fun g => g⟩
theorem laysN : SlLaysF0.n6 Tryz.prog renN where
  mixed := by kernel_rfl
  f6 := ⟨"slices.SortFunc[[]sennet/api.Note,sennet/api.Note]", by kernel_rfl, by kernel_rfl⟩
  f14 := ⟨"slices.pdqsortCmpFunc[sennet/api.Note]", by kernel_rfl, by kernel_rfl⟩
  f15 := by kernel_rfl
  f20 := ⟨"slices.insertionSortCmpFunc[sennet/api.Note]", by kernel_rfl, by kernel_rfl⟩
  f21 := ⟨"slices.heapSortCmpFunc[sennet/api.Note]", by kernel_rfl, by kernel_rfl⟩
  f22 := ⟨"slices.breakPatternsCmpFunc[sennet/api.Note]", by kernel_rfl, by kernel_rfl⟩
  f23 := ⟨"slices.choosePivotCmpFunc[sennet/api.Note]", by kernel_rfl, by kernel_rfl⟩
  f24 := ⟨"slices.reverseRangeCmpFunc[sennet/api.Note]", by kernel_rfl, by kernel_rfl⟩
  f25 := ⟨"slices.partialInsertionSortCmpFunc[sennet/api.Note]", by kernel_rfl, by kernel_rfl⟩
  f26 := ⟨"slices.partitionEqualCmpFunc[sennet/api.Note]", by kernel_rfl, by kernel_rfl⟩
  f27 := ⟨"slices.partitionCmpFunc[sennet/api.Note]", by kernel_rfl, by kernel_rfl⟩
  f28 := by kernel_rfl
  f29 := by kernel_rfl
  f46 := ⟨"slices.siftDownCmpFunc[sennet/api.Note]", by kernel_rfl, by kernel_rfl⟩
  f47 := by kernel_rfl
  f48 := by kernel_rfl
  f49 := ⟨"slices.medianAdjacentCmpFunc[sennet/api.Note]", by kernel_rfl, by kernel_rfl⟩
  f50 := ⟨"slices.medianCmpFunc[sennet/api.Note]", by kernel_rfl, by kernel_rfl⟩
  f57 := ⟨"slices.order2CmpFunc[sennet/api.Note]", by kernel_rfl, by kernel_rfl⟩
  t0 := by kernel_rfl
  a0 := fun w => by kernel_rfl
  z0 := fun w => by kernel_rfl
  v0 := fun w => by kernel_rfl
  t3 := by kernel_rfl
  a3 := fun w => by kernel_rfl
  z3 := fun w => by kernel_rfl
  v3 := fun w => by kernel_rfl
  t4 := by kernel_rfl
  a4 := fun w => by kernel_rfl
  z4 := fun w => by kernel_rfl
  v4 := fun w => by kernel_rfl
  t5 := by kernel_rfl
  a5 := fun w => by kernel_rfl
  z5 := fun w => by kernel_rfl
  v5 := fun w => by kernel_rfl
  t9 := by kernel_rfl
  a9 := fun w => by kernel_rfl
  z9 := fun w => by kernel_rfl
  v9 := fun w => by kernel_rfl
  t22 := by kernel_rfl
  a22 := fun w => by kernel_rfl
  z22 := fun w => by kernel_rfl
  v22 := fun w => by kernel_rfl
  t25 := by kernel_rfl
  a25 := fun w => by kernel_rfl
  z25 := fun w => by kernel_rfl
  v25 := fun w => by kernel_rfl
  t39 := by kernel_rfl
  a39 := fun w => by kernel_rfl
  z39 := fun w => by kernel_rfl
  v39 := fun w => by kernel_rfl
  t45 := by kernel_rfl
  a45 := fun w => by kernel_rfl
  z45 := fun w => by kernel_rfl
  v45 := fun w => by kernel_rfl
  t46 := by kernel_rfl
  a46 := fun w => by kernel_rfl
  z46 := fun w => by kernel_rfl
  v46 := fun w => by kernel_rfl
  t50 := by kernel_rfl
  a50 := fun w => by kernel_rfl
  z50 := fun w => by kernel_rfl
  v50 := fun w => by kernel_rfl
  t53 := by kernel_rfl
  a53 := fun w => by kernel_rfl
  z53 := fun w => by kernel_rfl
  v53 := fun w => by kernel_rfl
  t55 := by kernel_rfl
  a55 := fun w => by kernel_rfl
  z55 := fun w => by kernel_rfl
  v55 := fun w => by kernel_rfl
  t66 := by kernel_rfl
  a66 := fun w => by kernel_rfl
  z66 := fun w => by kernel_rfl
  v66 := fun w => by kernel_rfl
  t70 := by kernel_rfl
  a70 := fun w => by kernel_rfl
  z70 := fun w => by kernel_rfl
  v70 := fun w => by kernel_rfl
  t76 := by kernel_rfl
  a76 := fun w => by kernel_rfl
  z76 := fun w => by kernel_rfl
  v76 := fun w => by kernel_rfl
  t77 := by kernel_rfl
  a77 := fun w => by kernel_rfl
  z77 := fun w => by kernel_rfl
  v77 := fun w => by kernel_rfl
def renC : Ren := ⟨fun k => if k = 5 then 132 else if k = 7 then 156 else k, fun t => if t = 22 then 3 else t, fun g => g⟩
theorem laysC : SlLaysC2.n5 Tryz.prog renC where
  mixed := by kernel_rfl
  f5 := ⟨"cmp.Compare[int]", by kernel_rfl, by kernel_rfl⟩
  f7 := ⟨"cmp.isNaN[int]", by kernel_rfl, by kernel_rfl⟩
  t3 := by kernel_rfl
  a3 := fun w => by kernel_rfl
  z3 := fun w => by kernel_rfl
  v3 := fun w => by kernel_rfl
  t4 := by kernel_rfl
  a4 := fun w => by kernel_rfl
  z4 := fun w => by kernel_rfl
  v4 := fun w => by kernel_rfl
  t22 := by kernel_rfl
  a22 := fun w => by kernel_rfl
  z22 := fun w => by kernel_rfl
  v22 := fun w => by kernel_rfl
end Go.Gx.B
