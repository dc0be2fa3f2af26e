/-
  Functions of this seat, as the abstract machine runs them (printed by a program of mine), part 2.
-/
import Derived.Test.YtamljcdnphjgaaaGe
set_option linter.all false
set_option linter.deprecated false
set_option linter.unusedSimpArgs false
set_option linter.unusedVariables false
namespace Go.Gx.A
open Go.Gx
def f81 : IFn:=⟨19,[.tmp 4],.seq (.region 0 [⟨some 4,.mv (.const (.int .i64 0)),none⟩]) ( .seq (.seq (.region 0 [⟨some 5,.mv (.const (.int .i64 0)),none⟩]) ( .block 0 ( .loop ( .seq (.seq (.region 0 [⟨some 6,
 .mv (.tmp 5),none⟩,⟨some 7,.mv (.tmp 0),none⟩,⟨some 8,.ln (.tmp 7),none⟩,⟨some 9,.bin .lss (.tmp 6) (.tmp 8),none⟩]) ( .cond (.tmp 9) ( .skip) ( .exit 0))) ( .seq (.block 1 ( .seq (.region
 0 [⟨some 12,.mv (.tmp 0),none⟩,⟨some 13,.mv (.tmp 5),none⟩,⟨some 14,.idxA none 1 (.tmp 12) (.tmp 13),none⟩,⟨some 15,.load none (.tmp 14),none⟩,⟨some 16,.mv (.tmp 1),none⟩,⟨some 17,
 .bin .eql (.tmp 15) (.tmp 16),none⟩]) ( .cond (.tmp 17) ( .seq (.region 0 [⟨some 18,.mv (.tmp 5),none⟩,⟨some 4,.mv (.tmp 18),none⟩]) ( .ret)) ( .skip)))) ( .region 0 [⟨some 10,.mv (.tmp 5),
 none⟩,⟨some 11,.bin .add (.tmp 10) (.const (.int .i64 1)),none⟩,⟨some 5,.mv (.tmp 11),none⟩])))))) ( .seq (.region 0 [⟨some 4,.mv (.const (.int .i64 (-1))),none⟩]) ( .ret)))⟩
def f84 : IFn:=⟨37,[.tmp 4],.seq (.region 0 [⟨some 4,.mv (.const (.int .i64 0)),none⟩]) ( .seq (.seq (.region 0 [⟨some 8,.mv (.tmp 1),none⟩,⟨some 9,.ln (.tmp 8),none⟩,⟨some 10,.mv (.tmp 0),none⟩,⟨some
 11,.bin .neq (.tmp 9) (.tmp 10),none⟩]) ( .cond (.tmp 11) ( .seq (.region 0 [⟨some 4,.mv (.const (.int .i64 1)),none⟩]) ( .ret)) ( .skip))) ( .seq (.region 1 [⟨some 12,.mv (.tmp 0),none⟩,⟨some
 13,.mksl 4 1 1 [(.bool false)] (.tmp 12) (.tmp 12),none⟩,⟨some 5,.mv (.tmp 13),none⟩]) ( .seq (.seq (.region 0 [⟨some 14,.mv (.tmp 1),none⟩,⟨some 15,.ln (.tmp 14),none⟩,⟨some 16,.mv
 (.const (.int .i64 0)),none⟩]) ( .block 0 ( .loop ( .seq (.region 0 [⟨some 17,.bin .lss (.tmp 16) (.tmp 15),none⟩]) ( .seq (.cond (.tmp 17) ( .skip) ( .exit 0)) ( .seq (.block 1 ( .seq (.region 0
 [⟨some 18,.idxA none 1 (.tmp 14) (.tmp 16),none⟩,⟨some 19,.load none (.tmp 18),none⟩,⟨some 7,.mv (.tmp 19),none⟩]) ( .seq (.seq (.region 0 [⟨some 20,.mv (.tmp 7),none⟩,⟨some 21,.bin .lss
 (.tmp 20) (.const (.int .i64 0)),none⟩,⟨some 22,.mv (.tmp 21),none⟩,⟨some 23,.mv (.tmp 7),(some (22,false))⟩,⟨some 24,.mv (.tmp 0),(some (22,false))⟩,⟨some 25,.bin .geq (.tmp 23) (.tmp
 24),(some (22,false))⟩,⟨some 26,.pick (.tmp 22) (.const (.bool true)) (.tmp 25),none⟩,⟨some 27,.mv (.tmp 26),none⟩,⟨some 28,.mv (.tmp 5),(some (27,false))⟩,⟨some 29,.mv (.tmp 7),(some
 (27,false))⟩,⟨some 30,.idxA none 1 (.tmp 28) (.tmp 29),(some (27,false))⟩,⟨some 31,.load none (.tmp 30),(some (27,false))⟩,⟨some 32,.pick (.tmp 27) (.const (.bool true)) (.tmp 31),none⟩])
 ( .cond (.tmp 32) ( .seq (.region 0 [⟨some 4,.mv (.const (.int .i64 1)),none⟩]) ( .ret)) ( .skip))) ( .region 0 [⟨some 33,.mv (.tmp 5),none⟩,⟨some 34,.mv (.tmp 7),none⟩,⟨some 35,.idxA none 1
 (.tmp 33) (.tmp 34),none⟩,⟨none,.store 1 (.tmp 35) (.const (.bool true)),none⟩])))) ( .region 0 [⟨some 36,.bin .add (.tmp 16) (.const (.int .i64 1)),none⟩,⟨some 16,.mv (.tmp 36),
 none⟩]))))))) ( .seq (.region 0 [⟨some 4,.mv (.const (.int .i64 0)),none⟩]) ( .ret)))))⟩
def f85 : IFn:=⟨26,[.tmp 4],.seq (.region 0 [⟨some 4,.mv (.const (.bool false)),none⟩]) ( .seq (.seq (.region 0 [⟨some 6,.mv (.tmp 0),none⟩,⟨some 7,.ln (.tmp 6),none⟩,⟨some 8,.mv (.tmp 1),none⟩,⟨some 9,
 .ln (.tmp 8),none⟩,⟨some 10,.bin .neq (.tmp 7) (.tmp 9),none⟩]) ( .cond (.tmp 10) ( .seq (.region 0 [⟨some 4,.mv (.const (.bool false)),none⟩]) ( .ret)) ( .skip))) ( .seq (.seq (.region 0
 [⟨some 11,.mv (.tmp 0),none⟩,⟨some 12,.ln (.tmp 11),none⟩,⟨some 13,.mv (.const (.int .i64 0)),none⟩]) ( .block 0 ( .loop ( .seq (.region 0 [⟨some 14,.bin .lss (.tmp 13) (.tmp 12),none⟩]) (
 .seq (.cond (.tmp 14) ( .skip) ( .exit 0)) ( .seq (.block 1 ( .seq (.region 0 [⟨some 15,.mv (.tmp 13),none⟩,⟨some 5,.mv (.tmp 15),none⟩]) ( .seq (.draw 0 [⟨0,0,0,⟨some 16,.mv (.tmp 0),
 none⟩,none⟩,⟨1,0,0,⟨some 17,.mv (.tmp 5),none⟩,none⟩,⟨2,0,3,⟨some 18,.idxA none 1 (.tmp 16) (.tmp 17),none⟩,none⟩,⟨3,0,7,⟨some 19,.load none (.tmp 18),none⟩,none⟩,⟨4,0,0,
 ⟨some 20,.mv (.tmp 1),none⟩,none⟩,⟨5,0,0,⟨some 21,.mv (.tmp 5),none⟩,none⟩,⟨6,0,48,⟨some 22,.idxA none 1 (.tmp 20) (.tmp 21),none⟩,none⟩,⟨7,0,112,⟨some 23,.load none (.tmp 22),
 none⟩,none⟩,⟨8,0,255,⟨some 24,.bin .neq (.tmp 19) (.tmp 23),none⟩,none⟩]) ( .cond (.tmp 24) ( .seq (.region 0 [⟨some 4,.mv (.const (.bool false)),none⟩]) ( .ret)) ( .skip))))) ( .region 0
 [⟨some 25,.bin .add (.tmp 13) (.const (.int .i64 1)),none⟩,⟨some 13,.mv (.tmp 25),none⟩]))))))) ( .seq (.region 0 [⟨some 4,.mv (.const (.bool true)),none⟩]) ( .ret))))⟩
def f88 : IFn:=⟨20,[.cell 4 (some 2)],.seq (.region 2 [⟨some 2,.box 27 (.tmp 0),none⟩,⟨some 4,.alloc 110 [(.int .i64 0),(.int .i64 0)],none⟩]) ( .seq (.region 0 [⟨some 8,.fldA 0 (.tmp 2),none⟩,⟨some 9,
 .load (some 2) (.tmp 8),none⟩,⟨some 10,.mv (.tmp 1),none⟩,⟨some 11,.call (.func 140) [(.tmp 9),(.tmp 10)],none⟩,⟨some 7,.mv (.tmp 11),none⟩,⟨some 12,.extr (.tmp 7) 0,none⟩,⟨some 13,
 .extr (.tmp 7) 1,none⟩,⟨some 5,.mv (.tmp 12),none⟩,⟨some 6,.mv (.tmp 13),none⟩]) ( .seq (.region 0 [⟨some 14,.mv (.tmp 5),none⟩,⟨some 15,.fldA 2 (.tmp 2),none⟩,⟨some 16,.load none (.tmp
 15),none⟩,⟨some 17,.mv (.tmp 1),none⟩,⟨some 18,.call (.func 103) [(.tmp 16),(.tmp 17)],none⟩,⟨some 19,.build [(.int .i64 0),(.int .i64 0)] [(0,1,(.tmp 14)),(1,1,(.tmp 18))],none⟩,
 ⟨none,.store 2 (.tmp 4) (.tmp 19),none⟩]) ( .ret)))⟩
def f91 : IFn:=⟨29,[.cell 2 (some 4)],.seq (.region 2 [⟨some 1,.box 27 (.tmp 0),none⟩,⟨some 2,.alloc 44 [(.slice none 0 0),(.int .i64 0),(.int .i64 0),(.slice none 0 0)],none⟩]) ( .seq (.region 1 [⟨some 3,
 .alloc 44 [(.slice none 0 0),(.int .i64 0),(.int .i64 0),(.slice none 0 0)],none⟩]) ( .seq (.region 0 [⟨some 7,.load (some 4) (.tmp 1),none⟩,⟨some 8,.call (.func 93) [(.tmp 7)],none⟩,⟨some
 4,.mv (.tmp 8),none⟩]) ( .seq (.seq (.region 0 [⟨some 9,.mv (.tmp 4),none⟩,⟨some 10,.call (.func 118) [(.tmp 9)],none⟩]) ( .block 0 ( .rangeF (.tmp 10) [11] (.region 0 [⟨some 5,.mv (.tmp 11),
 none⟩]) (.block 1 ( .seq (.region 0 [⟨some 12,.mv (.tmp 5),none⟩,⟨some 13,.fldA 0 (.tmp 3),none⟩,⟨none,.store 1 (.tmp 13) (.tmp 12),none⟩]) ( .exit 0)))))) ( .seq (.region 1 [⟨some 14,.mv
 (.tmp 4),none⟩,⟨some 15,.call (.func 94) [(.tmp 14)],none⟩,⟨some 6,.alloc 110 [(.int .i64 0),(.int .i64 0)],none⟩,⟨none,.store 2 (.tmp 6) (.tmp 15),none⟩]) ( .seq (.draw 0 [⟨0,0,0,⟨some
 16,.idxA (some 2) 1 (.tmp 6) (.const (.int .i64 0)),none⟩,none⟩,⟨1,0,1,⟨some 17,.load none (.tmp 16),none⟩,none⟩,⟨2,0,0,⟨some 18,.idxA (some 2) 1 (.tmp 6) (.const (.int .i64 1)),
 none⟩,none⟩,⟨3,0,4,⟨some 19,.load none (.tmp 18),none⟩,none⟩,⟨4,0,0,⟨some 20,.fldA 2 (.tmp 1),none⟩,none⟩,⟨5,0,16,⟨some 21,.load none (.tmp 20),none⟩,none⟩,⟨6,0,0,⟨some 22,
 .fldA 0 (.tmp 3),none⟩,none⟩,⟨7,0,64,⟨some 23,.load none (.tmp 22),none⟩,none⟩,⟨9,0,195,⟨some 25,.fldA 1 (.tmp 3),none⟩,none⟩,⟨8,0,240,⟨some 24,.call (.func 77) [(.tmp 21),(.tmp
 23)],none⟩,none⟩,⟨10,0,1011,⟨none,.store 1 (.tmp 25) (.tmp 17),none⟩,none⟩,⟨11,0,2047,⟨some 26,.fldA 2 (.tmp 3),none⟩,none⟩,⟨12,0,4095,⟨none,.store 1 (.tmp 26) (.tmp 19),none⟩,
 none⟩,⟨13,0,8191,⟨some 27,.fldA 3 (.tmp 3),none⟩,none⟩,⟨14,0,16383,⟨none,.store 1 (.tmp 27) (.tmp 24),none⟩,none⟩]) ( .seq (.region 0 [⟨some 28,.load (some 4) (.tmp 3),none⟩,⟨none,
 .store 4 (.tmp 2) (.tmp 28),none⟩]) ( .ret)))))))⟩
def f93 : IFn:=⟨152,[.tmp 2],.seq (.region 1 [⟨some 1,.box 27 (.tmp 0),none⟩,⟨some 2,.mv (.const (.pointer none)),none⟩]) ( .seq (.draw 3 [⟨0,0,0,⟨some 14,.load (some 4) (.tmp 1),none⟩,none⟩,⟨1,0,0,
 ⟨some 15,.mkmap,none⟩,none⟩,⟨2,1,0,⟨some 16,.fldA 2 (.tmp 1),none⟩,none⟩,⟨3,1,4,⟨some 17,.load none (.tmp 16),none⟩,none⟩,⟨4,1,0,⟨some 18,.fldA 3 (.tmp 1),none⟩,none⟩,⟨5,1,
 16,⟨some 19,.load none (.tmp 18),none⟩,none⟩,⟨6,1,60,⟨some 20,.slc 3 1 (.tmp 17) none (some (.tmp 19)) none,none⟩,none⟩,⟨7,1,0,⟨some 21,.mkmap,none⟩,none⟩,⟨8,2,255,⟨some 22,
 .build ([(.int .i64 0)] ++ reps 2 (.slice none 0 0) ++ [(.int .i64 0)] ++ [(.slice none 0 0)] ++ [(.map none)] ++ [(.slice none 0 0)] ++ [(.int .i64 0)] ++ [(.slice none 0 0)] ++ [(.map none)]) [(0,
 4,(.tmp 14)),(5,1,(.tmp 15)),(6,1,(.tmp 20)),(9,1,(.tmp 21))],none⟩,none⟩,⟨9,2,511,⟨some 23,.box 150 (.tmp 22),none⟩,none⟩,⟨10,3,1023,⟨some 3,.mv (.tmp 23),none⟩,none⟩]) (
 .seq (.seq (.region 0 [⟨some 24,.fldA 2 (.tmp 1),none⟩,⟨some 25,.load none (.tmp 24),none⟩,⟨some 26,.ln (.tmp 25),none⟩,⟨some 27,.mv (.const (.int .i64 0)),none⟩]) ( .block 0 ( .loop (
 .seq (.region 0 [⟨some 28,.bin .lss (.tmp 27) (.tmp 26),none⟩]) ( .seq (.cond (.tmp 28) ( .skip) ( .exit 0)) ( .seq (.block 1 ( .seq (.region 0 [⟨some 29,.mv (.tmp 27),none⟩,⟨some 30,.idxA none
 1 (.tmp 25) (.tmp 27),none⟩,⟨some 31,.load none (.tmp 30),none⟩,⟨some 4,.mv (.tmp 29),none⟩,⟨some 5,.mv (.tmp 31),none⟩]) ( .region 0 [⟨some 32,.mv (.tmp 3),none⟩,⟨some 33,.nilc (.tmp
 32),none⟩,⟨some 34,.fldA 5 (.tmp 33),none⟩,⟨some 35,.load none (.tmp 34),none⟩,⟨some 36,.mv (.tmp 5),none⟩,⟨some 37,.mv (.tmp 4),none⟩,⟨none,.mset [(.int .i64)] false (.tmp 35) (.tmp
 36) (.tmp 37),none⟩]))) ( .region 0 [⟨some 38,.bin .add (.tmp 27) (.const (.int .i64 1)),none⟩,⟨some 27,.mv (.tmp 38),none⟩]))))))) ( .seq (.region 1 [⟨some 39,.mv (.tmp 3),none⟩,⟨some 40,
 .fldA 0 (.tmp 1),none⟩,⟨some 41,.fldA 0 (.tmp 40),none⟩,⟨some 42,.load none (.tmp 41),none⟩,⟨some 43,.mksl 25 1 24 [(.slice none 0 0)] (.tmp 42) (.tmp 42),none⟩,⟨some 44,.nilc (.tmp 39),
 none⟩,⟨some 45,.fldA 8 (.tmp 44),none⟩,⟨none,.store 1 (.tmp 45) (.tmp 43),none⟩]) ( .seq (.seq (.region 0 [⟨some 46,.mv (.tmp 3),none⟩,⟨some 47,.nilc (.tmp 46),none⟩,⟨some 48,.fldA 8
 (.tmp 47),none⟩,⟨some 49,.load none (.tmp 48),none⟩,⟨some 50,.ln (.tmp 49),none⟩,⟨some 51,.mv (.const (.int .i64 0)),none⟩]) ( .block 2 ( .loop ( .seq (.region 0 [⟨some 52,.bin .lss (.tmp
 51) (.tmp 50),none⟩]) ( .seq (.cond (.tmp 52) ( .skip) ( .exit 2)) ( .seq (.block 3 ( .seq (.region 0 [⟨some 53,.mv (.tmp 51),none⟩,⟨some 6,.mv (.tmp 53),none⟩]) ( .draw 1 [⟨0,0,0,⟨some 54,
 .mv (.tmp 3),none⟩,none⟩,⟨1,0,1,⟨some 55,.nilc (.tmp 54),none⟩,none⟩,⟨2,0,3,⟨some 56,.fldA 8 (.tmp 55),none⟩,none⟩,⟨3,0,7,⟨some 57,.load none (.tmp 56),none⟩,none⟩,⟨4,0,0,
 ⟨some 58,.mv (.tmp 6),none⟩,none⟩,⟨5,0,0,⟨some 59,.fldA 0 (.tmp 1),none⟩,none⟩,⟨6,0,32,⟨some 60,.fldA 0 (.tmp 59),none⟩,none⟩,⟨7,0,96,⟨some 61,.load none (.tmp 60),none⟩,
 none⟩,⟨8,0,224,⟨some 62,.mksl 3 1 8 [(.int .i64 0)] (.tmp 61) (.tmp 61),none⟩,none⟩,⟨9,1,511,⟨some 63,.idxA none 1 (.tmp 57) (.tmp 58),none⟩,none⟩,⟨10,1,1023,⟨none,.store 1 (.tmp
 63) (.tmp 62),none⟩,none⟩]))) ( .region 0 [⟨some 64,.bin .add (.tmp 51) (.const (.int .i64 1)),none⟩,⟨some 51,.mv (.tmp 64),none⟩]))))))) ( .seq (.seq (.region 0 [⟨some 65,.fldA 0 (.tmp 1),
 none⟩,⟨some 66,.fldA 1 (.tmp 65),none⟩,⟨some 67,.load none (.tmp 66),none⟩,⟨some 68,.ln (.tmp 67),none⟩,⟨some 69,.mv (.const (.int .i64 0)),none⟩]) ( .block 4 ( .loop ( .seq (.region 0
 [⟨some 70,.bin .lss (.tmp 69) (.tmp 68),none⟩]) ( .seq (.cond (.tmp 70) ( .skip) ( .exit 4)) ( .seq (.block 5 ( .seq (.region 1 [⟨some 71,.idxA none 4 (.tmp 67) (.tmp 69),none⟩,⟨some 72,.load
 (some 4) (.tmp 71),none⟩,⟨some 8,.alloc 181 [(.int .i64 0),(.int .i64 0),(.int .i64 0),(.int .i64 0)],none⟩,⟨none,.store 4 (.tmp 8) (.tmp 72),none⟩]) ( .draw 0 [⟨0,0,0,⟨some 73,.mv
 (.tmp 3),none⟩,none⟩,⟨1,0,1,⟨some 74,.nilc (.tmp 73),none⟩,none⟩,⟨2,0,3,⟨some 75,.fldA 8 (.tmp 74),none⟩,none⟩,⟨3,0,7,⟨some 76,.load none (.tmp 75),none⟩,none⟩,⟨4,0,0,⟨some
 77,.fldA 0 (.tmp 8),none⟩,none⟩,⟨5,0,16,⟨some 78,.load none (.tmp 77),none⟩,none⟩,⟨6,0,63,⟨some 79,.idxA none 1 (.tmp 76) (.tmp 78),none⟩,none⟩,⟨7,0,127,⟨some 80,.load none
 (.tmp 79),none⟩,none⟩,⟨8,0,0,⟨some 81,.fldA 1 (.tmp 8),none⟩,none⟩,⟨9,0,256,⟨some 82,.load none (.tmp 81),none⟩,none⟩,⟨10,0,0,⟨some 83,.fldA 3 (.tmp 8),none⟩,none⟩,⟨11,0,
 1024,⟨some 84,.load none (.tmp 83),none⟩,none⟩,⟨12,0,4095,⟨some 85,.idxA none 1 (.tmp 80) (.tmp 82),none⟩,none⟩,⟨13,0,8191,⟨none,.store 1 (.tmp 85) (.tmp 84),none⟩,none⟩]))) (
 .region 0 [⟨some 86,.bin .add (.tmp 69) (.const (.int .i64 1)),none⟩,⟨some 69,.mv (.tmp 86),none⟩]))))))) ( .seq (.seq (.region 0 [⟨some 87,.mv (.tmp 3),none⟩,⟨some 88,.nilc (.tmp 87),
 none⟩,⟨some 89,.fldA 6 (.tmp 88),none⟩,⟨some 90,.load none (.tmp 89),none⟩,⟨some 91,.ln (.tmp 90),none⟩,⟨some 92,.mv (.const (.int .i64 0)),none⟩]) ( .block 6 ( .loop ( .seq (.region 0
 [⟨some 93,.bin .lss (.tmp 92) (.tmp 91),none⟩]) ( .seq (.cond (.tmp 93) ( .skip) ( .exit 6)) ( .seq (.block 7 ( .seq (.region 0 [⟨some 94,.mv (.tmp 92),none⟩,⟨some 95,.idxA none 1 (.tmp 90)
 (.tmp 92),none⟩,⟨some 96,.load none (.tmp 95),none⟩,⟨some 9,.mv (.tmp 94),none⟩,⟨some 10,.mv (.tmp 96),none⟩]) ( .seq (.region 0 [⟨some 97,.mv (.tmp 3),none⟩,⟨some 98,.nilc (.tmp 97),
 none⟩,⟨some 99,.fldA 6 (.tmp 98),none⟩,⟨some 100,.load none (.tmp 99),none⟩,⟨some 101,.mv (.tmp 9),none⟩,⟨some 102,.slc 3 1 (.tmp 100) none (some (.tmp 101)) none,none⟩,⟨some 103,.ln
 (.tmp 102),none⟩,⟨some 104,.mv (.const (.int .i64 0)),none⟩]) ( .block 8 ( .loop ( .seq (.region 0 [⟨some 105,.bin .lss (.tmp 104) (.tmp 103),none⟩]) ( .seq (.cond (.tmp 105) ( .skip) ( .exit
 8)) ( .seq (.block 9 ( .seq (.region 0 [⟨some 106,.idxA none 1 (.tmp 102) (.tmp 104),none⟩,⟨some 107,.load none (.tmp 106),none⟩,⟨some 12,.mv (.tmp 107),none⟩]) ( .draw 0 [⟨0,0,0,⟨some
 108,.mv (.tmp 3),none⟩,none⟩,⟨1,0,1,⟨some 109,.nilc (.tmp 108),none⟩,none⟩,⟨2,0,3,⟨some 110,.fldA 7 (.tmp 109),none⟩,none⟩,⟨3,0,7,⟨some 111,.load none (.tmp 110),none⟩,none⟩,
 ⟨4,0,0,⟨some 112,.mv (.tmp 3),none⟩,none⟩,⟨5,0,16,⟨some 113,.nilc (.tmp 112),none⟩,none⟩,⟨6,0,48,⟨some 114,.fldA 8 (.tmp 113),none⟩,none⟩,⟨7,0,112,⟨some 115,.load none (.tmp
 114),none⟩,none⟩,⟨8,0,0,⟨some 116,.mv (.tmp 10),none⟩,none⟩,⟨9,0,496,⟨some 117,.idxA none 1 (.tmp 115) (.tmp 116),none⟩,none⟩,⟨10,0,1008,⟨some 118,.load none (.tmp 117),none⟩,
 none⟩,⟨11,0,0,⟨some 119,.mv (.tmp 12),none⟩,none⟩,⟨12,0,4080,⟨some 120,.idxA none 1 (.tmp 118) (.tmp 119),none⟩,none⟩,⟨13,0,8176,⟨some 121,.load none (.tmp 120),none⟩,none⟩,⟨14,
 0,16383,⟨some 122,.bin .add (.tmp 111) (.tmp 121),none⟩,none⟩,⟨15,0,32767,⟨some 123,.nilc (.tmp 108),none⟩,none⟩,⟨16,0,65535,⟨some 124,.fldA 7 (.tmp 123),none⟩,none⟩,⟨17,0,
 131071,⟨none,.store 1 (.tmp 124) (.tmp 122),none⟩,none⟩]))) ( .region 0 [⟨some 125,.bin .add (.tmp 104) (.const (.int .i64 1)),none⟩,⟨some 104,.mv (.tmp 125),none⟩]))))))))) ( .region 0
 [⟨some 126,.bin .add (.tmp 92) (.const (.int .i64 1)),none⟩,⟨some 92,.mv (.tmp 126),none⟩]))))))) ( .seq (.seq (.region 0 [⟨some 127,.fldA 0 (.tmp 1),none⟩,⟨some 128,.fldA 0 (.tmp 127),
 none⟩,⟨some 129,.load none (.tmp 128),none⟩,⟨some 130,.mv (.const (.int .i64 0)),none⟩]) ( .block 10 ( .loop ( .seq (.region 0 [⟨some 131,.bin .lss (.tmp 130) (.tmp 129),none⟩]) ( .seq (.cond
 (.tmp 131) ( .skip) ( .exit 10)) ( .seq (.block 11 ( .seq (.region 0 [⟨some 132,.mv (.tmp 130),none⟩,⟨some 13,.mv (.tmp 132),none⟩]) ( .seq (.region 0 [⟨some 133,.mv (.tmp 3),none⟩,⟨some 134,
 .nilc (.tmp 133),none⟩,⟨some 135,.fldA 6 (.tmp 134),none⟩,⟨some 136,.load none (.tmp 135),none⟩,⟨some 137,.mv (.tmp 13),none⟩,⟨some 138,.call (.func 74) [(.tmp 136),(.tmp 137)],none⟩,
 ⟨some 139,.un .not (.tmp 138),none⟩]) ( .cond (.tmp 139) ( .region 2 [⟨some 140,.mv (.tmp 3),none⟩,⟨some 141,.mv (.tmp 3),none⟩,⟨some 142,.nilc (.tmp 141),none⟩,⟨some 143,.fldA 4 (.tmp
 142),none⟩,⟨some 144,.load none (.tmp 143),none⟩,⟨some 145,.mv (.tmp 13),none⟩,⟨some 146,.bslice 3 1 [(.int .i64 0)] 1 [(0,1,(.tmp 145))],none⟩,⟨some 147,.app 3 1 8 [(.int .i64 0)]
 (.tmp 144) (.tmp 146),none⟩,⟨some 148,.nilc (.tmp 140),none⟩,⟨some 149,.fldA 4 (.tmp 148),none⟩,⟨none,.store 1 (.tmp 149) (.tmp 147),none⟩]) ( .skip))))) ( .region 0 [⟨some 150,.bin .add
 (.tmp 130) (.const (.int .i64 1)),none⟩,⟨some 130,.mv (.tmp 150),none⟩]))))))) ( .seq (.region 0 [⟨some 151,.mv (.tmp 3),none⟩,⟨some 2,.mv (.tmp 151),none⟩]) ( .ret)))))))))⟩
def f94 : IFn:=⟨15,[.cell 2 (some 2)],.seq (.region 1 [⟨some 2,.alloc 110 [(.int .i64 0),(.int .i64 0)],none⟩]) ( .seq (.region 2 [⟨some 6,.mv (.tmp 0),none⟩,⟨some 7,.call (.func 95) [(.tmp 6)],none⟩,
 ⟨some 5,.mv (.tmp 7),none⟩,⟨some 8,.extr (.tmp 5) 0,none⟩,⟨some 9,.extr (.tmp 5) 1,none⟩,⟨some 3,.alloc 123 [(.int .i64 0),(.int .i64 0)],none⟩,⟨some 4,.alloc 110 [(.int .i64 0),(.int
 .i64 0)],none⟩,⟨none,.store 2 (.tmp 3) (.tmp 8),none⟩,⟨none,.store 2 (.tmp 4) (.tmp 9),none⟩]) ( .seq (.draw 0 [⟨0,0,0,⟨some 10,.load (some 2) (.tmp 4),none⟩,none⟩,⟨1,0,0,⟨some 11,
 .mv (.tmp 0),none⟩,none⟩,⟨2,0,0,⟨some 12,.load (some 2) (.tmp 3),none⟩,none⟩,⟨3,0,6,⟨some 13,.call (.func 142) [(.tmp 11),(.tmp 12)],none⟩,none⟩,⟨4,0,15,⟨some 14,.call (.func
 99) [(.tmp 10),(.tmp 13)],none⟩,none⟩,⟨5,0,31,⟨none,.store 2 (.tmp 2) (.tmp 14),none⟩,none⟩]) ( .ret)))⟩
def f95 : IFn:=⟨16,[.cell 2 (some 2),.cell 3 (some 2)],.seq (.region 2 [⟨some 2,.alloc 123 [(.int .i64 0),(.int .i64 0)],none⟩,⟨some 3,.alloc 110 [(.int .i64 0),(.int .i64 0)],none⟩]) ( .seq (.draw 0 [⟨0,
 0,0,⟨some 4,.mv (.tmp 0),none⟩,none⟩,⟨1,0,1,⟨some 5,.nilc (.tmp 4),none⟩,none⟩,⟨2,0,3,⟨some 6,.fldA 0 (.tmp 5),none⟩,none⟩,⟨3,0,7,⟨some 7,.fldA 3 (.tmp 6),none⟩,none⟩,⟨4,
 0,15,⟨some 8,.load none (.tmp 7),none⟩,none⟩,⟨5,0,31,⟨some 9,.bin .sub (.tmp 8) (.const (.int .i64 1)),none⟩,none⟩,⟨6,0,63,⟨some 10,.build [(.int .i64 0),(.int .i64 0)] [(0,1,
 (.const (.int .i64 0))),(1,1,(.tmp 9))],none⟩,none⟩,⟨7,0,0,⟨some 11,.mv (.tmp 0),none⟩,none⟩,⟨8,0,128,⟨some 12,.nilc (.tmp 11),none⟩,none⟩,⟨9,0,384,⟨some 13,.fldA 7 (.tmp 12),
 none⟩,none⟩,⟨10,0,896,⟨some 14,.load none (.tmp 13),none⟩,none⟩,⟨11,0,1920,⟨some 15,.build [(.int .i64 0),(.int .i64 0)] [(0,1,(.tmp 14)),(1,1,(.const (.int .i64 0)))],none⟩,
 none⟩,⟨12,0,127,⟨none,.store 2 (.tmp 2) (.tmp 10),none⟩,none⟩,⟨13,0,8191,⟨none,.store 2 (.tmp 3) (.tmp 15),none⟩,none⟩]) ( .ret))⟩
def f96 : IFn:=⟨10,[.tmp 2],.seq (.region 0 [⟨some 2,.mv (.const (.int .i64 0)),none⟩]) ( .seq (.region 0 [⟨some 3,.mv (.tmp 0),none⟩,⟨some 4,.nilc (.tmp 3),none⟩,⟨some 5,.fldA 4 (.tmp 4),none⟩,⟨some 6,
 .load none (.tmp 5),none⟩,⟨some 7,.ln (.tmp 6),none⟩,⟨some 8,.bin .shl (.const (.int .i64 1)) (.tmp 7),none⟩,⟨some 9,.bin .sub (.tmp 8) (.const (.int .i64 1)),none⟩,⟨some 2,.mv (.tmp 9),
 none⟩]) ( .ret))⟩
def f97 : IFn:=⟨24,[.tmp 4],.seq (.region 2 [⟨some 2,.box 110 (.tmp 0),none⟩,⟨some 3,.box 110 (.tmp 1),none⟩,⟨some 4,.mv (.const (.bool false)),none⟩]) ( .seq (.region 0 [⟨some 5,.idxA (some 2) 1 (.tmp 2)
 (.const (.int .i64 0)),none⟩,⟨some 6,.load none (.tmp 5),none⟩,⟨some 7,.idxA (some 2) 1 (.tmp 3) (.const (.int .i64 0)),none⟩,⟨some 8,.load none (.tmp 7),none⟩,⟨some 9,.bin .lss (.tmp 6)
 (.tmp 8),none⟩,⟨some 10,.mv (.tmp 9),none⟩,⟨some 11,.idxA (some 2) 1 (.tmp 2) (.const (.int .i64 0)),(some (10,false))⟩,⟨some 12,.load none (.tmp 11),(some (10,false))⟩,⟨some 13,.idxA
 (some 2) 1 (.tmp 3) (.const (.int .i64 0)),(some (10,false))⟩,⟨some 14,.load none (.tmp 13),(some (10,false))⟩,⟨some 15,.bin .eql (.tmp 12) (.tmp 14),(some (10,false))⟩,⟨some 16,.mv (.tmp
 15),(some (10,false))⟩,⟨some 17,.idxA (some 2) 1 (.tmp 2) (.const (.int .i64 1)),(some (16,true))⟩,⟨some 18,.load none (.tmp 17),(some (16,true))⟩,⟨some 19,.idxA (some 2) 1 (.tmp 3)
 (.const (.int .i64 1)),(some (16,true))⟩,⟨some 20,.load none (.tmp 19),(some (16,true))⟩,⟨some 21,.bin .lss (.tmp 18) (.tmp 20),(some (16,true))⟩,⟨some 22,.pick (.tmp 16) (.tmp 21)
 (.const (.bool false)),(some (10,false))⟩,⟨some 23,.pick (.tmp 10) (.const (.bool true)) (.tmp 22),none⟩,⟨some 4,.mv (.tmp 23),none⟩]) ( .ret))⟩
def f98 : IFn:=⟨6,[.tmp 4],.seq (.region 2 [⟨some 2,.box 119 (.tmp 0),none⟩,⟨some 3,.box 123 (.tmp 1),none⟩,⟨some 4,.mv (.const .nilFunc),none⟩]) ( .seq (.region 0 [⟨some 5,.mkfn (.func 143) [] [(.tmp 2),
 (.tmp 3)],none⟩,⟨some 4,.mv (.tmp 5),none⟩]) ( .ret))⟩
def f99 : IFn:=⟨16,[.cell 4 (some 2)],.seq (.region 3 [⟨some 2,.box 110 (.tmp 0),none⟩,⟨some 3,.box 110 (.tmp 1),none⟩,⟨some 4,.alloc 110 [(.int .i64 0),(.int .i64 0)],none⟩]) ( .seq (.region 0 [⟨some 5,
 .idxA (some 2) 1 (.tmp 2) (.const (.int .i64 0)),none⟩,⟨some 6,.load none (.tmp 5),none⟩,⟨some 7,.idxA (some 2) 1 (.tmp 3) (.const (.int .i64 0)),none⟩,⟨some 8,.load none (.tmp 7),none⟩,
 ⟨some 9,.bin .add (.tmp 6) (.tmp 8),none⟩,⟨some 10,.idxA (some 2) 1 (.tmp 2) (.const (.int .i64 1)),none⟩,⟨some 11,.load none (.tmp 10),none⟩,⟨some 12,.idxA (some 2) 1 (.tmp 3) (.const
 (.int .i64 1)),none⟩,⟨some 13,.load none (.tmp 12),none⟩,⟨some 14,.bin .add (.tmp 11) (.tmp 13),none⟩,⟨some 15,.build [(.int .i64 0),(.int .i64 0)] [(0,1,(.tmp 9)),(1,1,(.tmp 14))],
 none⟩,⟨none,.store 2 (.tmp 4) (.tmp 15),none⟩]) ( .ret))⟩
def f103 : IFn:=⟨26,[.tmp 4],.seq (.region 0 [⟨some 4,.mv (.const (.int .i64 0)),none⟩]) ( .seq (.region 0 [⟨some 5,.mv (.const (.int .i64 0)),none⟩]) ( .seq (.seq (.region 0 [⟨some 8,.mv (.tmp 0),none⟩,
 ⟨some 9,.ln (.tmp 8),none⟩,⟨some 10,.mv (.const (.int .i64 0)),none⟩]) ( .block 0 ( .loop ( .seq (.region 0 [⟨some 11,.bin .lss (.tmp 10) (.tmp 9),none⟩]) ( .seq (.cond (.tmp 11) ( .skip) (
 .exit 0)) ( .seq (.block 1 ( .seq (.region 0 [⟨some 12,.idxA none 1 (.tmp 8) (.tmp 10),none⟩,⟨some 13,.load none (.tmp 12),none⟩,⟨some 7,.mv (.tmp 13),none⟩]) ( .seq (.region 0 [⟨some 14,.mv
 (.tmp 1),none⟩,⟨some 15,.mv (.tmp 7),none⟩,⟨some 16,.call (.func 74) [(.tmp 14),(.tmp 15)],none⟩]) ( .cond (.tmp 16) ( .region 0 [⟨some 17,.mv (.tmp 5),none⟩,⟨some 18,.bin .add (.tmp 17)
 (.const (.int .i64 1)),none⟩,⟨some 5,.mv (.tmp 18),none⟩]) ( .skip))))) ( .region 0 [⟨some 19,.bin .add (.tmp 10) (.const (.int .i64 1)),none⟩,⟨some 10,.mv (.tmp 19),none⟩]))))))) ( .seq
 (.region 0 [⟨some 20,.mv (.tmp 5),none⟩,⟨some 21,.mv (.tmp 0),none⟩,⟨some 22,.mv (.tmp 1),none⟩,⟨some 23,.call (.func 77) [(.tmp 21),(.tmp 22)],none⟩,⟨some 24,.ln (.tmp 23),none⟩,
 ⟨some 25,.bin .sub (.tmp 20) (.tmp 24),none⟩,⟨some 4,.mv (.tmp 25),none⟩]) ( .ret))))⟩
def f115 : IFn:=⟨19,[.tmp 2],.seq (.region 0 [⟨some 2,.mv (.const (.bool false)),none⟩]) ( .seq (.region 1 [⟨some 6,.mkmap,none⟩,⟨some 3,.mv (.tmp 6),none⟩]) ( .seq (.seq (.region 0 [⟨some 7,.mv (.tmp 0),
 none⟩,⟨some 8,.ln (.tmp 7),none⟩,⟨some 9,.mv (.const (.int .i64 0)),none⟩]) ( .block 0 ( .loop ( .seq (.region 0 [⟨some 10,.bin .lss (.tmp 9) (.tmp 8),none⟩]) ( .seq (.cond (.tmp 10) ( .skip)
 ( .exit 0)) ( .seq (.block 1 ( .seq (.region 0 [⟨some 11,.idxA none 1 (.tmp 7) (.tmp 9),none⟩,⟨some 12,.load none (.tmp 11),none⟩,⟨some 5,.mv (.tmp 12),none⟩]) ( .seq (.seq (.region 0 [⟨some
 13,.mv (.tmp 3),none⟩,⟨some 14,.mv (.tmp 5),none⟩,⟨some 15,.look [(.int .i64)] false (.bool false) false (.tmp 13) (.tmp 14),none⟩]) ( .cond (.tmp 15) ( .seq (.region 0 [⟨some 2,.mv (.const
 (.bool true)),none⟩]) ( .ret)) ( .skip))) ( .region 0 [⟨some 16,.mv (.tmp 3),none⟩,⟨some 17,.mv (.tmp 5),none⟩,⟨none,.mset [(.int .i64)] false (.tmp 16) (.tmp 17) (.const (.bool true)),
 none⟩])))) ( .region 0 [⟨some 18,.bin .add (.tmp 9) (.const (.int .i64 1)),none⟩,⟨some 9,.mv (.tmp 18),none⟩]))))))) ( .seq (.region 0 [⟨some 2,.mv (.const (.bool false)),none⟩]) ( .ret))))⟩
def f117 : IFn:=⟨20,[.tmp 2],.seq (.region 0 [⟨some 2,.mv (.const (.bool false)),none⟩]) ( .seq (.seq (.region 0 [⟨some 3,.mv (.const (.int .i64 0)),none⟩]) ( .block 0 ( .loop ( .seq (.seq (.region 0 [⟨some 5,
 .mv (.tmp 3),none⟩,⟨some 6,.mv (.tmp 0),none⟩,⟨some 7,.ln (.tmp 6),none⟩,⟨some 8,.bin .lss (.tmp 5) (.tmp 7),none⟩]) ( .cond (.tmp 8) ( .skip) ( .exit 0))) ( .seq (.block 1 ( .seq (.draw 0
 [⟨0,0,0,⟨some 11,.mv (.tmp 0),none⟩,none⟩,⟨1,0,0,⟨some 12,.mv (.tmp 3),none⟩,none⟩,⟨2,0,3,⟨some 13,.slc 3 1 (.tmp 11) none (some (.tmp 12)) none,none⟩,none⟩,⟨3,0,0,⟨some 14,
 .mv (.tmp 0),none⟩,none⟩,⟨4,0,0,⟨some 15,.mv (.tmp 3),none⟩,none⟩,⟨5,0,24,⟨some 16,.idxA none 1 (.tmp 14) (.tmp 15),none⟩,none⟩,⟨6,0,56,⟨some 17,.load none (.tmp 16),none⟩,
 none⟩,⟨7,0,127,⟨some 18,.call (.func 71) [(.tmp 13),(.tmp 17)],none⟩,none⟩,⟨8,0,255,⟨some 4,.mv (.tmp 18),none⟩,none⟩]) ( .seq (.region 0 [⟨some 19,.mv (.tmp 4),none⟩]) ( .cond (.tmp
 19) ( .seq (.region 0 [⟨some 2,.mv (.const (.bool true)),none⟩]) ( .ret)) ( .skip))))) ( .region 0 [⟨some 9,.mv (.tmp 3),none⟩,⟨some 10,.bin .add (.tmp 9) (.const (.int .i64 1)),none⟩,⟨some
 3,.mv (.tmp 10),none⟩])))))) ( .seq (.region 0 [⟨some 2,.mv (.const (.bool false)),none⟩]) ( .ret)))⟩
def f118 : IFn:=⟨4,[.tmp 2],.seq (.region 1 [⟨some 1,.box 119 (.tmp 0),none⟩,⟨some 2,.mv (.const .nilFunc),none⟩]) ( .seq (.region 0 [⟨some 3,.mkfn (.func 147) [] [(.tmp 1)],none⟩,⟨some 2,.mv (.tmp 3),
 none⟩]) ( .ret))⟩
def f121 : IFn:=⟨18,[.tmp 2],.seq (.region 0 [⟨some 2,.mv (.const (.int .i64 0)),none⟩]) ( .seq (.region 0 [⟨some 3,.mv (.const (.int .i64 0)),none⟩]) ( .seq (.seq (.region 0 [⟨some 6,.mv (.tmp 0),none⟩,
 ⟨some 7,.ln (.tmp 6),none⟩,⟨some 8,.mv (.const (.int .i64 0)),none⟩]) ( .block 0 ( .loop ( .seq (.region 0 [⟨some 9,.bin .lss (.tmp 8) (.tmp 7),none⟩]) ( .seq (.cond (.tmp 9) ( .skip) ( .exit
 0)) ( .seq (.block 1 ( .seq (.region 0 [⟨some 10,.idxA none 1 (.tmp 6) (.tmp 8),none⟩,⟨some 11,.load none (.tmp 10),none⟩,⟨some 5,.mv (.tmp 11),none⟩]) ( .seq (.region 0 [⟨some 12,.mv (.tmp
 5),none⟩,⟨some 13,.mv (.tmp 3),none⟩,⟨some 14,.bin .neq (.tmp 12) (.tmp 13),none⟩]) ( .cond (.tmp 14) ( .seq (.region 0 [⟨some 15,.mv (.tmp 5),none⟩,⟨some 2,.mv (.tmp 15),none⟩]) ( .ret))
 ( .skip))))) ( .region 0 [⟨some 16,.bin .add (.tmp 8) (.const (.int .i64 1)),none⟩,⟨some 8,.mv (.tmp 16),none⟩]))))))) ( .seq (.region 0 [⟨some 17,.mv (.tmp 3),none⟩,⟨some 2,.mv (.tmp 17),
 none⟩]) ( .ret))))⟩
def f122 : IFn:=⟨20,[.tmp 4],.seq (.region 0 [⟨some 4,.mv (.const (.int .i64 0)),none⟩]) ( .seq (.region 0 [⟨some 7,.mv (.tmp 0),none⟩,⟨some 8,.call (.func 151) [(.tmp 7)],none⟩,⟨some 5,.mv (.tmp 8),
 none⟩]) ( .seq (.region 0 [⟨some 9,.mv (.tmp 1),none⟩,⟨some 10,.call (.func 151) [(.tmp 9)],none⟩,⟨some 6,.mv (.tmp 10),none⟩]) ( .seq (.seq (.region 0 [⟨some 11,.mv (.tmp 5),none⟩]) (
 .cond (.tmp 11) ( .seq (.seq (.region 0 [⟨some 12,.mv (.tmp 6),none⟩]) ( .cond (.tmp 12) ( .seq (.region 0 [⟨some 4,.mv (.const (.int .i64 0)),none⟩]) ( .ret)) ( .skip))) ( .seq (.region 0 [⟨some
 4,.mv (.const (.int .i64 (-1))),none⟩]) ( .ret))) ( .skip))) ( .seq (.seq (.region 0 [⟨some 13,.mv (.tmp 6),none⟩]) ( .cond (.tmp 13) ( .seq (.region 0 [⟨some 4,.mv (.const (.int .i64 1)),
 none⟩]) ( .ret)) ( .skip))) ( .seq (.seq (.region 0 [⟨some 14,.mv (.tmp 0),none⟩,⟨some 15,.mv (.tmp 1),none⟩,⟨some 16,.bin .lss (.tmp 14) (.tmp 15),none⟩]) ( .cond (.tmp 16) ( .seq (.region 0
 [⟨some 4,.mv (.const (.int .i64 (-1))),none⟩]) ( .ret)) ( .skip))) ( .seq (.seq (.region 0 [⟨some 17,.mv (.tmp 0),none⟩,⟨some 18,.mv (.tmp 1),none⟩,⟨some 19,.bin .gtr (.tmp 17) (.tmp 18),
 none⟩]) ( .cond (.tmp 19) ( .seq (.region 0 [⟨some 4,.mv (.const (.int .i64 1)),none⟩]) ( .ret)) ( .skip))) ( .seq (.region 0 [⟨some 4,.mv (.const (.int .i64 0)),none⟩]) ( .ret))))))))⟩
def f123 : IFn:=⟨36,[.tmp 2],.seq (.region 0 [⟨some 2,.mv (.const (.slice none 0 0)),none⟩]) ( .seq (.region 0 [⟨some 3,.mv (.const (.int .i64 0)),none⟩]) ( .seq (.seq (.region 0 [⟨some 9,.mv (.tmp 0),none⟩,
 ⟨some 10,.ln (.tmp 9),none⟩,⟨some 11,.mv (.const (.int .i64 0)),none⟩]) ( .block 0 ( .loop ( .seq (.region 0 [⟨some 12,.bin .lss (.tmp 11) (.tmp 10),none⟩]) ( .seq (.cond (.tmp 12) ( .skip) (
 .exit 0)) ( .seq (.block 1 ( .seq (.region 0 [⟨some 13,.idxA none 1 (.tmp 9) (.tmp 11),none⟩,⟨some 14,.load none (.tmp 13),none⟩,⟨some 5,.mv (.tmp 14),none⟩]) ( .seq (.region 0 [⟨some 15,.mv
 (.tmp 3),none⟩,⟨some 16,.mv (.tmp 5),none⟩,⟨some 17,.ln (.tmp 16),none⟩,⟨some 18,.bin .add (.tmp 15) (.tmp 17),none⟩,⟨some 3,.mv (.tmp 18),none⟩]) ( .seq (.region 0 [⟨some 19,.mv (.tmp
 3),none⟩,⟨some 20,.bin .lss (.tmp 19) (.const (.int .i64 0)),none⟩]) ( .cond (.tmp 20) ( .region 0 [⟨some 21,.mkif 9 (.const (.string ⟨#[108,101,110,32,111,117,116,32,111,102,32,114,
 97,110,103,101]⟩)),none⟩,⟨none,.panic (.tmp 21),none⟩]) ( .skip)))))) ( .region 0 [⟨some 22,.bin .add (.tmp 11) (.const (.int .i64 1)),none⟩,⟨some 11,.mv (.tmp 22),none⟩]))))))) ( .seq
 (.region 0 [⟨some 23,.mv (.tmp 3),none⟩,⟨some 24,.call (.func 152) [(.const (.slice none 0 0)),(.tmp 23)],none⟩,⟨some 6,.mv (.tmp 24),none⟩]) ( .seq (.seq (.region 0 [⟨some 25,.mv (.tmp 0),
 none⟩,⟨some 26,.ln (.tmp 25),none⟩,⟨some 27,.mv (.const (.int .i64 0)),none⟩]) ( .block 2 ( .loop ( .seq (.region 0 [⟨some 28,.bin .lss (.tmp 27) (.tmp 26),none⟩]) ( .seq (.cond (.tmp 28) (
 .skip) ( .exit 2)) ( .seq (.block 3 ( .seq (.region 0 [⟨some 29,.idxA none 1 (.tmp 25) (.tmp 27),none⟩,⟨some 30,.load none (.tmp 29),none⟩,⟨some 8,.mv (.tmp 30),none⟩]) ( .region 1 [⟨some 31,
 .mv (.tmp 6),none⟩,⟨some 32,.mv (.tmp 8),none⟩,⟨some 33,.app 3 1 8 [(.int .i64 0)] (.tmp 31) (.tmp 32),none⟩,⟨some 6,.mv (.tmp 33),none⟩]))) ( .region 0 [⟨some 34,.bin .add (.tmp 27)
 (.const (.int .i64 1)),none⟩,⟨some 27,.mv (.tmp 34),none⟩]))))))) ( .seq (.region 0 [⟨some 35,.mv (.tmp 6),none⟩,⟨some 2,.mv (.tmp 35),none⟩]) ( .ret))))))⟩
def f124 : IFn:=⟨9,[.tmp 4],.seq (.region 1 [⟨some 3,.box 86 (.tmp 1),none⟩,⟨some 4,.mv (.const (.bool false)),none⟩]) ( .seq (.region 0 [⟨some 5,.mv (.tmp 0),none⟩,⟨some 6,.load (some 3) (.tmp 3),none⟩,
 ⟨some 7,.call (.func 153) [(.tmp 5),(.tmp 6)],none⟩,⟨some 8,.bin .geq (.tmp 7) (.const (.int .i64 0)),none⟩,⟨some 4,.mv (.tmp 8),none⟩]) ( .ret))⟩
def f125 : IFn:=⟨14,[],.seq (.region 0 [⟨some 5,.mv (.tmp 0),none⟩,⟨some 6,.ln (.tmp 5),none⟩,⟨some 4,.mv (.tmp 6),none⟩]) ( .region 0 [⟨some 7,.mv (.tmp 0),none⟩,⟨some 8,.mv (.tmp 4),none⟩,⟨some 9,
 .mv (.tmp 4),none⟩,⟨some 10,.conv .u64 (.tmp 9),none⟩,⟨some 11,.call (.func 150) [(.tmp 10)],none⟩,⟨some 12,.mv (.tmp 1),none⟩,⟨some 13,.call (.func 154) [(.tmp 7),(.const (.int .i64
 0)),(.tmp 8),(.tmp 11),(.tmp 12)],none⟩])⟩
def f126 : IFn:=⟨10,[.tmp 4],.seq (.region 2 [⟨some 2,.box 86 (.tmp 0),none⟩,⟨some 3,.box 86 (.tmp 1),none⟩,⟨some 4,.mv (.const (.int .i64 0)),none⟩]) ( .seq (.region 0 [⟨some 5,.fldA 0 (.tmp 2),none⟩,
 ⟨some 6,.load none (.tmp 5),none⟩,⟨some 7,.fldA 0 (.tmp 3),none⟩,⟨some 8,.load none (.tmp 7),none⟩,⟨some 9,.call (.func 122) [(.tmp 6),(.tmp 8)],none⟩,⟨some 4,.mv (.tmp 9),none⟩]) (
 .ret))⟩
def f134 : IFn:=⟨15,[.tmp 6],.seq (.region 0 [⟨some 6,.mv (.const (.bool false)),none⟩]) ( .seq (.region 0 [⟨some 7,.mv (.tmp 0),none⟩,⟨some 8,.mv (.tmp 1),none⟩,⟨some 9,.bin .geq (.tmp 7) (.tmp 8),none⟩,
 ⟨some 10,.mv (.tmp 9),none⟩,⟨some 11,.mv (.tmp 0),(some (10,true))⟩,⟨some 12,.mv (.tmp 2),(some (10,true))⟩,⟨some 13,.bin .leq (.tmp 11) (.tmp 12),(some (10,true))⟩,⟨some 14,.pick
 (.tmp 10) (.tmp 13) (.const (.bool false)),none⟩,⟨some 6,.mv (.tmp 14),none⟩]) ( .ret))⟩
def f135 : IFn:=⟨17,[.tmp 4],.seq (.region 2 [⟨some 2,.box 181 (.tmp 0),none⟩,⟨some 3,.box 181 (.tmp 1),none⟩,⟨some 4,.mv (.const (.int .i64 0)),none⟩]) ( .seq (.draw 1 [⟨0,0,0,⟨some 5,.fldA 0 (.tmp 2),
 none⟩,none⟩,⟨1,0,1,⟨some 6,.load none (.tmp 5),none⟩,none⟩,⟨2,0,0,⟨some 7,.fldA 0 (.tmp 3),none⟩,none⟩,⟨3,0,4,⟨some 8,.load none (.tmp 7),none⟩,none⟩,⟨5,0,0,⟨some 10,.fldA
 1 (.tmp 2),none⟩,none⟩,⟨6,0,32,⟨some 11,.load none (.tmp 10),none⟩,none⟩,⟨7,0,0,⟨some 12,.fldA 1 (.tmp 3),none⟩,none⟩,⟨8,0,128,⟨some 13,.load none (.tmp 12),none⟩,none⟩,⟨4,0,
 15,⟨some 9,.call (.func 122) [(.tmp 6),(.tmp 8)],none⟩,none⟩,⟨9,0,511,⟨some 14,.call (.func 122) [(.tmp 11),(.tmp 13)],none⟩,none⟩,⟨10,0,1023,⟨some 15,.bslice 3 1 [(.int .i64 0),
 (.int .i64 0)] 2 [(0,1,(.tmp 9)),(1,1,(.tmp 14))],none⟩,none⟩,⟨11,1,2047,⟨some 16,.call (.func 121) [(.tmp 15)],none⟩,none⟩,⟨12,1,4095,⟨some 4,.mv (.tmp 16),none⟩,none⟩]) (
 .ret))⟩
def f136 : IFn:=⟨58,[],.seq (.region 0 [⟨some 12,.mv (.tmp 0),none⟩,⟨some 11,.mv (.tmp 12),none⟩]) ( .block 0 ( .loop ( .seq (.seq (.region 0 [⟨some 13,.mv (.tmp 11),none⟩,⟨some 14,.load none (.tmp 3),
 none⟩,⟨some 15,.ln (.tmp 14),none⟩,⟨some 16,.bin .lss (.tmp 13) (.tmp 15),none⟩,⟨some 17,.mv (.tmp 16),none⟩,⟨some 18,.mv (.tmp 2),(some (17,true))⟩,⟨some 19,.bin .gtr (.tmp 18)
 (.const (.int .i64 0)),(some (17,true))⟩,⟨some 20,.pick (.tmp 17) (.tmp 19) (.const (.bool false)),none⟩]) ( .cond (.tmp 20) ( .skip) ( .exit 0))) ( .seq (.block 1 ( .seq (.draw 0 [⟨0,0,0,
 ⟨some 23,.load none (.tmp 4),none⟩,none⟩,⟨1,0,0,⟨some 24,.mv (.tmp 11),none⟩,none⟩,⟨2,0,3,⟨some 25,.idxA none 1 (.tmp 23) (.tmp 24),none⟩,none⟩,⟨3,0,7,⟨some 26,.load none (.tmp
 25),none⟩,none⟩,⟨4,0,0,⟨some 27,.mv (.tmp 2),none⟩,none⟩,⟨5,0,31,⟨some 28,.bin .eql (.tmp 26) (.tmp 27),none⟩,none⟩,⟨6,0,63,⟨some 29,.mv (.tmp 28),none⟩,none⟩,⟨7,0,127,
 ⟨some 30,.load none (.tmp 5),(some (29,true))⟩,none⟩,⟨8,0,127,⟨some 31,.load none (.tmp 3),(some (29,true))⟩,none⟩,⟨9,0,127,⟨some 32,.mv (.tmp 11),(some (29,true))⟩,none⟩,⟨10,0,
 895,⟨some 33,.idxA none 1 (.tmp 31) (.tmp 32),(some (29,true))⟩,none⟩,⟨11,0,1919,⟨some 34,.load none (.tmp 33),(some (29,true))⟩,none⟩,⟨12,0,4095,⟨some 35,.look [(.int .i64)] false
 (.int .i64 0) false (.tmp 30) (.tmp 34),(some (29,true))⟩,none⟩,⟨13,0,127,⟨some 36,.mv (.tmp 1),(some (29,true))⟩,none⟩,⟨14,0,16383,⟨some 37,.bin .gtr (.tmp 35) (.tmp 36),(some (29,
 true))⟩,none⟩,⟨15,0,32767,⟨some 38,.pick (.tmp 29) (.tmp 37) (.const (.bool false)),none⟩,none⟩]) ( .cond (.tmp 38) ( .seq (.draw 2 [⟨0,0,0,⟨some 39,.load none (.tmp 6),none⟩,none⟩,⟨1,
 0,0,⟨some 40,.load none (.tmp 3),none⟩,none⟩,⟨2,0,0,⟨some 41,.mv (.tmp 11),none⟩,none⟩,⟨3,0,6,⟨some 42,.idxA none 1 (.tmp 40) (.tmp 41),none⟩,none⟩,⟨4,0,14,⟨some 43,.load none
 (.tmp 42),none⟩,none⟩,⟨5,0,30,⟨some 44,.bslice 3 1 [(.int .i64 0)] 1 [(0,1,(.tmp 43))],none⟩,none⟩,⟨6,1,63,⟨some 45,.app 3 1 8 [(.int .i64 0)] (.tmp 39) (.tmp 44),none⟩,none⟩,⟨7,
 2,127,⟨none,.store 1 (.tmp 6) (.tmp 45),none⟩,none⟩]) ( .seq (.draw 0 [⟨0,0,0,⟨some 46,.load none (.tmp 7),none⟩,none⟩,⟨1,0,0,⟨some 47,.mv (.tmp 11),none⟩,none⟩,⟨2,0,2,⟨some 48,
 .bin .add (.tmp 47) (.const (.int .i64 1)),none⟩,none⟩,⟨3,0,0,⟨some 49,.load none (.tmp 5),none⟩,none⟩,⟨4,0,0,⟨some 50,.load none (.tmp 3),none⟩,none⟩,⟨5,0,0,⟨some 51,.mv (.tmp
 11),none⟩,none⟩,⟨6,0,48,⟨some 52,.idxA none 1 (.tmp 50) (.tmp 51),none⟩,none⟩,⟨7,0,112,⟨some 53,.load none (.tmp 52),none⟩,none⟩,⟨8,0,248,⟨some 54,.look [(.int .i64)] false (.int
 .i64 0) false (.tmp 49) (.tmp 53),none⟩,none⟩,⟨9,0,0,⟨some 55,.mv (.tmp 2),none⟩,none⟩,⟨10,0,512,⟨some 56,.bin .sub (.tmp 55) (.const (.int .i64 1)),none⟩,none⟩,⟨11,0,2047,⟨some
 57,.call (.tmp 46) [(.tmp 48),(.tmp 54),(.tmp 56)],none⟩,none⟩]) ( .ret))) ( .skip)))) ( .region 0 [⟨some 21,.mv (.tmp 11),none⟩,⟨some 22,.bin .add (.tmp 21) (.const (.int .i64 1)),none⟩,
 ⟨some 11,.mv (.tmp 22),none⟩])))))⟩
def f140 : IFn:=⟨16,[.tmp 4,.tmp 5],.seq (.region 1 [⟨some 2,.box 24 (.tmp 0),none⟩,⟨some 4,.mv (.const (.int .i64 0)),none⟩,⟨some 5,.mv (.const (.int .i64 0)),none⟩]) ( .seq (.seq (.region 0 [⟨some 7,
 .load (some 2) (.tmp 2),none⟩,⟨some 8,.mv (.tmp 1),none⟩,⟨some 9,.call (.func 162) [(.tmp 7),(.tmp 8)],none⟩,⟨some 6,.mv (.tmp 9),none⟩]) ( .seq (.region 0 [⟨some 10,.mv (.tmp 6),none⟩,
 ⟨some 11,.bin .neq (.tmp 10) (.const (.int .i64 0)),none⟩]) ( .cond (.tmp 11) ( .seq (.region 0 [⟨some 12,.mv (.tmp 6),none⟩,⟨some 4,.mv (.const (.int .i64 0)),none⟩,⟨some 5,.mv (.tmp 12),
 none⟩]) ( .ret)) ( .skip)))) ( .seq (.region 0 [⟨some 13,.load (some 2) (.tmp 2),none⟩,⟨some 14,.mv (.tmp 1),none⟩,⟨some 15,.call (.func 163) [(.tmp 13),(.tmp 14)],none⟩,⟨some 4,.mv (.tmp
 15),none⟩,⟨some 5,.mv (.const (.int .i64 0)),none⟩]) ( .ret)))⟩
def f142 : IFn:=⟨54,[.cell 4 (some 2)],.seq (.region 3 [⟨some 2,.box 119 (.tmp 0),none⟩,⟨some 3,.box 123 (.tmp 1),none⟩,⟨some 4,.alloc 110 [(.int .i64 0),(.int .i64 0)],none⟩]) ( .seq (.seq (.draw 0 [⟨0,
 0,0,⟨some 11,.fldA 0 (.tmp 3),none⟩,none⟩,⟨1,0,1,⟨some 12,.load none (.tmp 11),none⟩,none⟩,⟨2,0,0,⟨some 13,.load none (.tmp 2),none⟩,none⟩,⟨3,0,4,⟨some 14,.call (.func 96)
 [(.tmp 13)],none⟩,none⟩,⟨4,0,15,⟨some 15,.bin .eql (.tmp 12) (.tmp 14),none⟩,none⟩]) ( .cond (.tmp 15) ( .seq (.region 0 [⟨some 16,.build [(.int .i64 0),(.int .i64 0)] [],none⟩,⟨none,
 .store 2 (.tmp 4) (.tmp 16),none⟩]) ( .ret)) ( .skip))) ( .seq (.seq (.draw 1 [⟨0,0,0,⟨some 18,.load none (.tmp 2),none⟩,none⟩,⟨1,0,1,⟨some 19,.nilc (.tmp 18),none⟩,none⟩,⟨2,0,3,
 ⟨some 20,.fldA 9 (.tmp 19),none⟩,none⟩,⟨3,0,7,⟨some 21,.load none (.tmp 20),none⟩,none⟩,⟨4,0,0,⟨some 22,.load (some 2) (.tmp 3),none⟩,none⟩,⟨5,0,31,⟨some 23,.look [(.int .i64),
 (.int .i64)] true (.agg #[(.int .i64 0),(.int .i64 0)]) true (.tmp 21) (.tmp 22),none⟩,none⟩,⟨6,0,63,⟨some 17,.mv (.tmp 23),none⟩,none⟩,⟨7,0,127,⟨some 24,.extr (.tmp 17) 0,none⟩,
 none⟩,⟨8,0,127,⟨some 25,.extr (.tmp 17) 1,none⟩,none⟩,⟨9,0,0,⟨some 5,.alloc 110 [(.int .i64 0),(.int .i64 0)],none⟩,none⟩,⟨10,1,767,⟨none,.store 2 (.tmp 5) (.tmp 24),none⟩,
 none⟩,⟨11,1,2047,⟨some 6,.mv (.tmp 25),none⟩,none⟩]) ( .seq (.region 0 [⟨some 26,.mv (.tmp 6),none⟩]) ( .cond (.tmp 26) ( .seq (.region 0 [⟨some 27,.load (some 2) (.tmp 5),none⟩,⟨none,
 .store 2 (.tmp 4) (.tmp 27),none⟩]) ( .ret)) ( .skip)))) ( .seq (.region 1 [⟨some 7,.alloc 110 [(.int .i64 0),(.int .i64 0)],none⟩]) ( .seq (.region 1 [⟨some 8,.alloc 4 [(.bool false)],none⟩,
 ⟨none,.store 1 (.tmp 8) (.const (.bool false)),none⟩]) ( .seq (.seq (.region 0 [⟨some 28,.load none (.tmp 2),none⟩,⟨some 29,.load (some 2) (.tmp 3),none⟩,⟨some 30,.call (.func 98) [(.tmp
 28),(.tmp 29)],none⟩]) ( .block 0 ( .rangeF (.tmp 30) [31] (.region 1 [⟨some 9,.alloc 135 [(.int .i64 0),(.int .i64 0),(.int .i64 0),(.int .i64 0),(.int .i64 0)],none⟩,⟨none,.store 5 (.tmp
 9) (.tmp 31),none⟩]) (.block 1 ( .seq (.draw 1 [⟨0,0,0,⟨some 32,.fldA 3 (.tmp 9),none⟩,none⟩,⟨1,0,1,⟨some 33,.load (some 2) (.tmp 32),none⟩,none⟩,⟨2,0,0,⟨some 34,.load none (.tmp
 2),none⟩,none⟩,⟨3,0,0,⟨some 35,.fldA 1 (.tmp 9),none⟩,none⟩,⟨4,0,8,⟨some 36,.load (some 2) (.tmp 35),none⟩,none⟩,⟨7,0,0,⟨some 10,.alloc 110 [(.int .i64 0),(.int .i64 0)],none⟩,
 none⟩,⟨5,0,28,⟨some 37,.call (.func 142) [(.tmp 34),(.tmp 36)],none⟩,none⟩,⟨6,0,63,⟨some 38,.call (.func 99) [(.tmp 33),(.tmp 37)],none⟩,none⟩,⟨8,1,255,⟨none,.store 2 (.tmp 10)
 (.tmp 38),none⟩,none⟩]) ( .seq (.region 0 [⟨some 39,.load none (.tmp 8),none⟩,⟨some 40,.un .not (.tmp 39),none⟩,⟨some 41,.mv (.tmp 40),none⟩,⟨some 42,.load (some 2) (.tmp 10),(some (41,
 false))⟩,⟨some 43,.load (some 2) (.tmp 7),(some (41,false))⟩,⟨some 44,.call (.func 97) [(.tmp 42),(.tmp 43)],(some (41,false))⟩,⟨some 45,.pick (.tmp 41) (.const (.bool true)) (.tmp 44),
 none⟩]) ( .cond (.tmp 45) ( .region 0 [⟨some 46,.load (some 2) (.tmp 10),none⟩,⟨none,.store 2 (.tmp 7) (.tmp 46),none⟩,⟨none,.store 1 (.tmp 8) (.const (.bool true)),none⟩]) ( .skip)))))))) (
 .seq (.draw 0 [⟨0,0,0,⟨some 47,.load none (.tmp 2),none⟩,none⟩,⟨1,0,1,⟨some 48,.nilc (.tmp 47),none⟩,none⟩,⟨2,0,3,⟨some 49,.fldA 9 (.tmp 48),none⟩,none⟩,⟨3,0,7,⟨some 50,.load
 none (.tmp 49),none⟩,none⟩,⟨4,0,0,⟨some 51,.load (some 2) (.tmp 3),none⟩,none⟩,⟨5,0,0,⟨some 52,.load (some 2) (.tmp 7),none⟩,none⟩,⟨6,0,63,⟨none,.mset [(.int .i64),(.int .i64)]
 true (.tmp 50) (.tmp 51) (.tmp 52),none⟩,none⟩]) ( .seq (.region 0 [⟨some 53,.load (some 2) (.tmp 7),none⟩,⟨none,.store 2 (.tmp 4) (.tmp 53),none⟩]) ( .ret))))))))⟩
def f143 : IFn:=⟨80,[],.seq (.region 0 [⟨some 11,.load none (.tmp 1),none⟩,⟨some 12,.nilc (.tmp 11),none⟩,⟨some 13,.fldA 4 (.tmp 12),none⟩,⟨some 14,.load none (.tmp 13),none⟩,⟨some 15,.ln (.tmp 14),
 none⟩,⟨some 16,.mv (.const (.int .i64 0)),none⟩]) ( .block 0 ( .loop ( .seq (.region 0 [⟨some 17,.bin .lss (.tmp 16) (.tmp 15),none⟩]) ( .seq (.cond (.tmp 17) ( .skip) ( .exit 0)) ( .seq (.block
 1 ( .seq (.region 0 [⟨some 18,.mv (.tmp 16),none⟩,⟨some 19,.idxA none 1 (.tmp 14) (.tmp 16),none⟩,⟨some 20,.load none (.tmp 19),none⟩,⟨some 4,.mv (.tmp 18),none⟩,⟨some 5,.mv (.tmp 20),
 none⟩]) ( .seq (.seq (.region 0 [⟨some 21,.fldA 0 (.tmp 2),none⟩,⟨some 22,.load none (.tmp 21),none⟩,⟨some 23,.mv (.tmp 4),none⟩,⟨some 24,.bin .shr (.tmp 22) (.tmp 23),none⟩,⟨some 25,
 .bin .and (.tmp 24) (.const (.int .i64 1)),none⟩,⟨some 26,.bin .eql (.tmp 25) (.const (.int .i64 1)),none⟩]) ( .cond (.tmp 26) ( .exit 1) ( .skip))) ( .seq (.region 0 [⟨some 27,.load none (.tmp
 1),none⟩,⟨some 28,.mv (.tmp 4),none⟩,⟨some 29,.fldA 0 (.tmp 2),none⟩,⟨some 30,.load none (.tmp 29),none⟩,⟨some 31,.call (.func 144) [(.tmp 27),(.tmp 28),(.tmp 30)],none⟩,⟨some 6,.mv
 (.tmp 31),none⟩]) ( .seq (.draw 1 [⟨0,0,0,⟨some 32,.fldA 0 (.tmp 2),none⟩,none⟩,⟨1,0,1,⟨some 33,.load none (.tmp 32),none⟩,none⟩,⟨2,0,0,⟨some 34,.mv (.tmp 4),none⟩,none⟩,⟨3,0,
 4,⟨some 35,.bin .shl (.const (.int .i64 1)) (.tmp 34),none⟩,none⟩,⟨4,0,15,⟨some 36,.bin .or (.tmp 33) (.tmp 35),none⟩,none⟩,⟨5,0,0,⟨some 37,.fldA 1 (.tmp 2),none⟩,none⟩,⟨6,0,32,
 ⟨some 38,.load none (.tmp 37),none⟩,none⟩,⟨7,0,127,⟨some 39,.build [(.int .i64 0),(.int .i64 0)] [(0,1,(.tmp 36)),(1,1,(.tmp 38))],none⟩,none⟩,⟨8,0,0,⟨some 7,.alloc 123 [(.int
 .i64 0),(.int .i64 0)],none⟩,none⟩,⟨9,1,511,⟨none,.store 2 (.tmp 7) (.tmp 39),none⟩,none⟩]) ( .seq (.region 0 [⟨some 41,.load none (.tmp 1),none⟩,⟨some 42,.nilc (.tmp 41),none⟩,⟨some
 43,.fldA 5 (.tmp 42),none⟩,⟨some 44,.load none (.tmp 43),none⟩,⟨some 45,.mv (.tmp 5),none⟩,⟨some 46,.look [(.int .i64)] false (.int .i64 0) true (.tmp 44) (.tmp 45),none⟩,⟨some 40,.mv
 (.tmp 46),none⟩,⟨some 47,.extr (.tmp 40) 0,none⟩,⟨some 48,.extr (.tmp 40) 1,none⟩,⟨some 8,.mv (.tmp 47),none⟩,⟨some 9,.mv (.tmp 48),none⟩]) ( .seq (.seq (.region 0 [⟨some 49,.mv (.tmp
 9),none⟩,⟨some 50,.mv (.tmp 49),none⟩,⟨some 51,.mv (.tmp 8),(some (50,true))⟩,⟨some 52,.fldA 1 (.tmp 2),(some (50,true))⟩,⟨some 53,.load none (.tmp 52),(some (50,true))⟩,⟨some 54,
 .bin .gtr (.tmp 51) (.tmp 53),(some (50,true))⟩,⟨some 55,.pick (.tmp 50) (.tmp 54) (.const (.bool false)),none⟩,⟨some 56,.mv (.tmp 55),none⟩,⟨some 57,.mv (.tmp 0),(some (56,true))⟩,⟨some
 58,.mv (.tmp 4),(some (56,true))⟩,⟨some 59,.fldA 0 (.tmp 7),(some (56,true))⟩,⟨some 60,.load none (.tmp 59),(some (56,true))⟩,⟨some 61,.mv (.tmp 8),(some (56,true))⟩,⟨some 62,.build
 [(.int .i64 0),(.int .i64 0)] [(0,1,(.tmp 60)),(1,1,(.tmp 61))],(some (56,true))⟩,⟨some 63,.mv (.tmp 6),(some (56,true))⟩,⟨some 64,.build [(.int .i64 0),(.int .i64 0)] [(0,1,(.tmp
 63)),(1,1,(.const (.int .i64 0)))],(some (56,true))⟩,⟨some 65,.build [(.int .i64 0),(.int .i64 0),(.int .i64 0),(.int .i64 0),(.int .i64 0)] [(0,1,(.tmp 58)),(1,2,(.tmp 62)),(3,2,
 (.tmp 64))],(some (56,true))⟩,⟨some 66,.call (.tmp 57) [(.tmp 65)],(some (56,true))⟩,⟨some 67,.un .not (.tmp 66),(some (56,true))⟩,⟨some 68,.pick (.tmp 56) (.tmp 67) (.const (.bool
 false)),none⟩]) ( .cond (.tmp 68) ( .ret) ( .skip))) ( .seq (.region 0 [⟨some 10,.mv (.const (.int .i64 0)),none⟩]) ( .seq (.seq (.region 0 [⟨some 69,.mv (.tmp 9),none⟩]) ( .cond (.tmp 69) (
 .region 0 [⟨some 10,.mv (.const (.int .i64 1)),none⟩]) ( .skip))) ( .seq (.region 0 [⟨some 70,.mv (.tmp 0),none⟩,⟨some 71,.mv (.tmp 4),none⟩,⟨some 72,.load (some 2) (.tmp 7),none⟩,⟨some
 73,.mv (.tmp 6),none⟩,⟨some 74,.mv (.tmp 10),none⟩,⟨some 75,.build [(.int .i64 0),(.int .i64 0)] [(0,1,(.tmp 73)),(1,1,(.tmp 74))],none⟩,⟨some 76,.build [(.int .i64 0),(.int .i64 0),
 (.int .i64 0),(.int .i64 0),(.int .i64 0)] [(0,1,(.tmp 71)),(1,2,(.tmp 72)),(3,2,(.tmp 75))],none⟩,⟨some 77,.call (.tmp 70) [(.tmp 76)],none⟩,⟨some 78,.un .not (.tmp 77),none⟩]) (
 .cond (.tmp 78) ( .ret) ( .skip)))))))))))) ( .region 0 [⟨some 79,.bin .add (.tmp 16) (.const (.int .i64 1)),none⟩,⟨some 16,.mv (.tmp 79),none⟩]))))))⟩
def f144 : IFn:=⟨75,[.tmp 6],.seq (.region 0 [⟨some 6,.mv (.const (.int .i64 0)),none⟩]) ( .seq (.region 0 [⟨some 7,.mv (.const (.int .i64 0)),none⟩]) ( .seq (.seq (.region 0 [⟨some 12,.mv (.tmp 0),none⟩,
 ⟨some 13,.nilc (.tmp 12),none⟩,⟨some 14,.fldA 6 (.tmp 13),none⟩,⟨some 15,.load none (.tmp 14),none⟩,⟨some 16,.ln (.tmp 15),none⟩,⟨some 17,.mv (.const (.int .i64 0)),none⟩]) ( .block 0 (
 .loop ( .seq (.region 0 [⟨some 18,.bin .lss (.tmp 17) (.tmp 16),none⟩]) ( .seq (.cond (.tmp 18) ( .skip) ( .exit 0)) ( .seq (.block 1 ( .seq (.region 0 [⟨some 19,.idxA none 1 (.tmp 15) (.tmp 17),
 none⟩,⟨some 20,.load none (.tmp 19),none⟩,⟨some 9,.mv (.tmp 20),none⟩]) ( .draw 0 [⟨0,0,0,⟨some 21,.mv (.tmp 7),none⟩,none⟩,⟨1,0,0,⟨some 22,.mv (.tmp 0),none⟩,none⟩,⟨2,0,2,
 ⟨some 23,.nilc (.tmp 22),none⟩,none⟩,⟨3,0,6,⟨some 24,.fldA 8 (.tmp 23),none⟩,none⟩,⟨4,0,14,⟨some 25,.load none (.tmp 24),none⟩,none⟩,⟨5,0,0,⟨some 26,.mv (.tmp 0),none⟩,none⟩,
 ⟨6,0,32,⟨some 27,.nilc (.tmp 26),none⟩,none⟩,⟨7,0,96,⟨some 28,.fldA 4 (.tmp 27),none⟩,none⟩,⟨8,0,224,⟨some 29,.load none (.tmp 28),none⟩,none⟩,⟨9,0,0,⟨some 30,.mv (.tmp 1),
 none⟩,none⟩,⟨10,0,992,⟨some 31,.idxA none 1 (.tmp 29) (.tmp 30),none⟩,none⟩,⟨11,0,2016,⟨some 32,.load none (.tmp 31),none⟩,none⟩,⟨12,0,4094,⟨some 33,.idxA none 1 (.tmp 25) (.tmp
 32),none⟩,none⟩,⟨13,0,8190,⟨some 34,.load none (.tmp 33),none⟩,none⟩,⟨14,0,0,⟨some 35,.mv (.tmp 9),none⟩,none⟩,⟨15,0,32766,⟨some 36,.idxA none 1 (.tmp 34) (.tmp 35),none⟩,
 none⟩,⟨16,0,65534,⟨some 37,.load none (.tmp 36),none⟩,none⟩,⟨17,0,131071,⟨some 38,.bin .add (.tmp 21) (.tmp 37),none⟩,none⟩,⟨18,0,262143,⟨some 7,.mv (.tmp 38),none⟩,none⟩]))) (
 .region 0 [⟨some 39,.bin .add (.tmp 17) (.const (.int .i64 1)),none⟩,⟨some 17,.mv (.tmp 39),none⟩]))))))) ( .seq (.seq (.region 0 [⟨some 40,.mv (.tmp 0),none⟩,⟨some 41,.nilc (.tmp 40),
 none⟩,⟨some 42,.fldA 4 (.tmp 41),none⟩,⟨some 43,.load none (.tmp 42),none⟩,⟨some 44,.ln (.tmp 43),none⟩,⟨some 45,.mv (.const (.int .i64 0)),none⟩]) ( .block 2 ( .loop ( .seq (.region 0
 [⟨some 46,.bin .lss (.tmp 45) (.tmp 44),none⟩]) ( .seq (.cond (.tmp 46) ( .skip) ( .exit 2)) ( .seq (.block 3 ( .seq (.region 0 [⟨some 47,.mv (.tmp 45),none⟩,⟨some 48,.idxA none 1 (.tmp 43)
 (.tmp 45),none⟩,⟨some 49,.load none (.tmp 48),none⟩,⟨some 10,.mv (.tmp 47),none⟩,⟨some 11,.mv (.tmp 49),none⟩]) ( .seq (.region 0 [⟨some 50,.mv (.tmp 2),none⟩,⟨some 51,.mv (.tmp 10),
 none⟩,⟨some 52,.bin .shr (.tmp 50) (.tmp 51),none⟩,⟨some 53,.bin .and (.tmp 52) (.const (.int .i64 1)),none⟩,⟨some 54,.bin .eql (.tmp 53) (.const (.int .i64 1)),none⟩]) ( .cond (.tmp 54) (
 .draw 0 [⟨0,0,0,⟨some 55,.mv (.tmp 7),none⟩,none⟩,⟨1,0,0,⟨some 56,.mv (.tmp 0),none⟩,none⟩,⟨2,0,2,⟨some 57,.nilc (.tmp 56),none⟩,none⟩,⟨3,0,6,⟨some 58,.fldA 8 (.tmp 57),
 none⟩,none⟩,⟨4,0,14,⟨some 59,.load none (.tmp 58),none⟩,none⟩,⟨5,0,0,⟨some 60,.mv (.tmp 0),none⟩,none⟩,⟨6,0,32,⟨some 61,.nilc (.tmp 60),none⟩,none⟩,⟨7,0,96,⟨some 62,.fldA 4
 (.tmp 61),none⟩,none⟩,⟨8,0,224,⟨some 63,.load none (.tmp 62),none⟩,none⟩,⟨9,0,0,⟨some 64,.mv (.tmp 1),none⟩,none⟩,⟨10,0,992,⟨some 65,.idxA none 1 (.tmp 63) (.tmp 64),none⟩,
 none⟩,⟨11,0,2016,⟨some 66,.load none (.tmp 65),none⟩,none⟩,⟨12,0,4094,⟨some 67,.idxA none 1 (.tmp 59) (.tmp 66),none⟩,none⟩,⟨13,0,8190,⟨some 68,.load none (.tmp 67),none⟩,none⟩,
 ⟨14,0,0,⟨some 69,.mv (.tmp 11),none⟩,none⟩,⟨15,0,32766,⟨some 70,.idxA none 1 (.tmp 68) (.tmp 69),none⟩,none⟩,⟨16,0,65534,⟨some 71,.load none (.tmp 70),none⟩,none⟩,⟨17,0,131071,
 ⟨some 72,.bin .add (.tmp 55) (.tmp 71),none⟩,none⟩,⟨18,0,262143,⟨some 7,.mv (.tmp 72),none⟩,none⟩]) ( .skip))))) ( .region 0 [⟨some 73,.bin .add (.tmp 45) (.const (.int .i64 1)),none⟩,
 ⟨some 45,.mv (.tmp 73),none⟩]))))))) ( .seq (.region 0 [⟨some 74,.mv (.tmp 7),none⟩,⟨some 6,.mv (.tmp 74),none⟩]) ( .ret)))))⟩
def f147 : IFn:=⟨26,[],.seq (.region 1 [⟨some 2,.box 159 (.tmp 0),none⟩]) ( .seq (.region 2 [⟨some 8,.load none (.tmp 1),none⟩,⟨some 9,.call (.func 95) [(.tmp 8)],none⟩,⟨some 7,.mv (.tmp 9),none⟩,⟨some
 10,.extr (.tmp 7) 0,none⟩,⟨some 11,.extr (.tmp 7) 1,none⟩,⟨some 3,.alloc 123 [(.int .i64 0),(.int .i64 0)],none⟩,⟨some 4,.alloc 110 [(.int .i64 0),(.int .i64 0)],none⟩,⟨none,.store 2
 (.tmp 3) (.tmp 10),none⟩,⟨none,.store 2 (.tmp 4) (.tmp 11),none⟩]) ( .seq (.region 1 [⟨some 12,.load none (.tmp 1),none⟩,⟨some 13,.call (.func 94) [(.tmp 12)],none⟩,⟨some 5,.alloc 110
 [(.int .i64 0),(.int .i64 0)],none⟩,⟨none,.store 2 (.tmp 5) (.tmp 13),none⟩]) ( .seq (.region 1 [⟨some 6,.alloc 197 [.nilFunc],none⟩]) ( .seq (.region 0 [⟨some 14,.mkfn (.func 148) [] [(.tmp
 1),(.tmp 2),(.tmp 5),(.tmp 6)],none⟩,⟨none,.store 1 (.tmp 6) (.tmp 14),none⟩]) ( .draw 1 [⟨0,0,0,⟨some 15,.load none (.tmp 6),none⟩,none⟩,⟨1,0,0,⟨some 16,.load none (.tmp 1),none⟩,
 none⟩,⟨2,0,2,⟨some 17,.nilc (.tmp 16),none⟩,none⟩,⟨3,0,6,⟨some 18,.fldA 6 (.tmp 17),none⟩,none⟩,⟨4,0,14,⟨some 19,.load none (.tmp 18),none⟩,none⟩,⟨6,0,0,⟨some 21,.mkmap,
 none⟩,none⟩,⟨7,1,0,⟨some 22,.load (some 2) (.tmp 3),none⟩,none⟩,⟨8,1,0,⟨some 23,.load (some 2) (.tmp 4),none⟩,none⟩,⟨9,1,448,⟨none,.mset [(.int .i64),(.int .i64)] true (.tmp 21)
 (.tmp 22) (.tmp 23),none⟩,(some 6)⟩,⟨10,1,960,⟨some 24,.mv (.tmp 21),none⟩,none⟩,⟨5,0,30,⟨some 20,.call (.func 73) [(.tmp 19)],none⟩,none⟩,⟨11,1,2047,⟨some 25,.call (.tmp 15)
 [(.tmp 20),(.tmp 24)],none⟩,none⟩])))))⟩
def f148 : IFn:=⟨104,[.tmp 8],.seq (.region 0 [⟨some 8,.mv (.const (.bool false)),none⟩]) ( .seq (.seq (.region 0 [⟨some 18,.mv (.tmp 0),none⟩,⟨some 19,.ln (.tmp 18),none⟩,⟨some 20,.load none (.tmp 2),
 none⟩,⟨some 21,.nilc (.tmp 20),none⟩,⟨some 22,.fldA 0 (.tmp 21),none⟩,⟨some 23,.fldA 0 (.tmp 22),none⟩,⟨some 24,.fldA 0 (.tmp 23),none⟩,⟨some 25,.load none (.tmp 24),none⟩,⟨some 26,
 .bin .eql (.tmp 19) (.tmp 25),none⟩]) ( .cond (.tmp 26) ( .seq (.draw 0 [⟨0,0,0,⟨some 27,.load none (.tmp 3),none⟩,none⟩,⟨1,0,0,⟨some 28,.mv (.tmp 0),none⟩,none⟩,⟨2,0,2,⟨some 29,
 .call (.func 73) [(.tmp 28)],none⟩,none⟩,⟨3,0,7,⟨some 30,.call (.tmp 27) [(.tmp 29)],none⟩,none⟩,⟨4,0,15,⟨some 8,.mv (.tmp 30),none⟩,none⟩]) ( .ret)) ( .skip))) ( .seq (.seq (.region
 0 [⟨some 31,.load none (.tmp 2),none⟩,⟨some 32,.nilc (.tmp 31),none⟩,⟨some 33,.fldA 4 (.tmp 32),none⟩,⟨some 34,.load none (.tmp 33),none⟩,⟨some 35,.ln (.tmp 34),none⟩,⟨some 36,.mv
 (.const (.int .i64 0)),none⟩]) ( .block 0 ( .loop ( .seq (.region 0 [⟨some 37,.bin .lss (.tmp 36) (.tmp 35),none⟩]) ( .seq (.cond (.tmp 37) ( .skip) ( .exit 0)) ( .seq (.block 1 ( .seq (.region 1
 [⟨some 38,.mv (.tmp 36),none⟩,⟨some 39,.idxA none 1 (.tmp 34) (.tmp 36),none⟩,⟨some 40,.load none (.tmp 39),none⟩,⟨some 9,.alloc 3 [(.int .i64 0)],none⟩,⟨none,.store 1 (.tmp 9) (.tmp
 38),none⟩,⟨some 10,.mv (.tmp 40),none⟩]) ( .seq (.region 2 [⟨some 41,.mkmap,none⟩,⟨some 11,.alloc 126 [(.map none)],none⟩,⟨none,.store 1 (.tmp 11) (.tmp 41),none⟩]) ( .seq (.seq (.region
 1 [⟨some 42,.mv (.tmp 1),none⟩,⟨some 43,.rngm (.tmp 42),none⟩]) ( .block 2 ( .loop ( .seq (.region 0 [⟨some 44,.nxtm (.tmp 43),none⟩,⟨some 45,.extr (.tmp 44) 0,none⟩]) ( .seq (.cond (.tmp
 45) ( .skip) ( .exit 2)) ( .block 3 ( .seq (.region 2 [⟨some 46,.entry (.tmp 43),none⟩,⟨some 47,.extr (.tmp 46) 0,none⟩,⟨some 48,.extr (.tmp 46) 1,none⟩,⟨some 12,.alloc 123 [(.int .i64 0),
 (.int .i64 0)],none⟩,⟨some 13,.alloc 110 [(.int .i64 0),(.int .i64 0)],none⟩,⟨none,.store 2 (.tmp 12) (.tmp 47),none⟩,⟨none,.store 2 (.tmp 13) (.tmp 48),none⟩]) ( .seq (.region 0 [⟨some
 49,.load none (.tmp 2),none⟩,⟨some 50,.load (some 2) (.tmp 12),none⟩,⟨some 51,.call (.func 98) [(.tmp 49),(.tmp 50)],none⟩]) ( .block 4 ( .rangeF (.tmp 51) [52] (.region 1 [⟨some 14,.alloc
 135 [(.int .i64 0),(.int .i64 0),(.int .i64 0),(.int .i64 0),(.int .i64 0)],none⟩,⟨none,.store 5 (.tmp 14) (.tmp 52),none⟩]) (.block 5 ( .seq (.seq (.region 0 [⟨some 53,.fldA 0 (.tmp 14),
 none⟩,⟨some 54,.load none (.tmp 53),none⟩,⟨some 55,.load none (.tmp 9),none⟩,⟨some 56,.bin .neq (.tmp 54) (.tmp 55),none⟩]) ( .cond (.tmp 56) ( .exit 5) ( .skip))) ( .seq (.region 1 [⟨some
 57,.load (some 2) (.tmp 13),none⟩,⟨some 58,.fldA 3 (.tmp 14),none⟩,⟨some 59,.load (some 2) (.tmp 58),none⟩,⟨some 60,.call (.func 99) [(.tmp 57),(.tmp 59)],none⟩,⟨some 15,.alloc 110
 [(.int .i64 0),(.int .i64 0)],none⟩,⟨none,.store 2 (.tmp 15) (.tmp 60),none⟩]) ( .seq (.region 1 [⟨some 62,.load none (.tmp 11),none⟩,⟨some 63,.fldA 1 (.tmp 14),none⟩,⟨some 64,.load (some
 2) (.tmp 63),none⟩,⟨some 65,.look [(.int .i64),(.int .i64)] true (.agg #[(.int .i64 0),(.int .i64 0)]) true (.tmp 62) (.tmp 64),none⟩,⟨some 61,.mv (.tmp 65),none⟩,⟨some 66,.extr (.tmp 61)
 0,none⟩,⟨some 67,.extr (.tmp 61) 1,none⟩,⟨some 16,.alloc 110 [(.int .i64 0),(.int .i64 0)],none⟩,⟨none,.store 2 (.tmp 16) (.tmp 66),none⟩,⟨some 17,.mv (.tmp 67),none⟩]) ( .seq (.draw 0
 [⟨0,0,0,⟨some 68,.load (some 2) (.tmp 15),none⟩,none⟩,⟨1,0,0,⟨some 69,.load none (.tmp 2),none⟩,none⟩,⟨2,0,0,⟨some 70,.fldA 1 (.tmp 14),none⟩,none⟩,⟨3,0,4,⟨some 71,.load
 (some 2) (.tmp 70),none⟩,none⟩,⟨6,0,0,⟨some 74,.load (some 2) (.tmp 4),none⟩,none⟩,⟨4,0,14,⟨some 72,.call (.func 142) [(.tmp 69),(.tmp 71)],none⟩,none⟩,⟨5,0,31,⟨some 73,.call
 (.func 99) [(.tmp 68),(.tmp 72)],none⟩,none⟩,⟨7,0,127,⟨some 75,.eqc false [(.int .i64),(.int .i64)] true (.tmp 73) (.tmp 74),none⟩,none⟩,⟨8,0,255,⟨some 76,.mv (.tmp 75),none⟩,none⟩,
 ⟨9,0,511,⟨some 77,.mv (.tmp 17),(some (76,true))⟩,none⟩,⟨10,0,1023,⟨some 78,.un .not (.tmp 77),(some (76,true))⟩,none⟩,⟨11,0,2047,⟨some 79,.mv (.tmp 78),(some (76,true))⟩,
 none⟩,⟨12,0,4095,⟨some 80,.load (some 2) (.tmp 15),(some (79,false))⟩,none⟩,⟨13,0,4095,⟨some 81,.load (some 2) (.tmp 16),(some (79,false))⟩,none⟩,⟨14,0,16383,⟨some 82,.call
 (.func 97) [(.tmp 80),(.tmp 81)],(some (79,false))⟩,none⟩,⟨15,0,32767,⟨some 83,.pick (.tmp 79) (.const (.bool true)) (.tmp 82),(some (76,true))⟩,none⟩,⟨16,0,65535,⟨some 84,.pick
 (.tmp 76) (.tmp 83) (.const (.bool false)),none⟩,none⟩]) ( .cond (.tmp 84) ( .region 0 [⟨some 85,.load none (.tmp 11),none⟩,⟨some 86,.fldA 1 (.tmp 14),none⟩,⟨some 87,.load (some 2) (.tmp
 86),none⟩,⟨some 88,.load (some 2) (.tmp 15),none⟩,⟨none,.mset [(.int .i64),(.int .i64)] true (.tmp 85) (.tmp 87) (.tmp 88),none⟩]) ( .skip))))))))))))))))) ( .seq (.draw 2 [⟨0,0,0,⟨some
 89,.load none (.tmp 11),none⟩,none⟩,⟨1,0,1,⟨some 90,.mlen (.tmp 89),none⟩,none⟩,⟨2,0,3,⟨some 91,.bin .gtr (.tmp 90) (.const (.int .i64 0)),none⟩,none⟩,⟨3,0,7,⟨some 92,.mv (.tmp
 91),none⟩,none⟩,⟨4,0,15,⟨some 93,.load none (.tmp 5),(some (92,true))⟩,none⟩,⟨5,0,15,⟨some 94,.mv (.tmp 0),(some (92,true))⟩,none⟩,⟨7,0,15,⟨some 96,.mv (.tmp 10),(some (92,
 true))⟩,none⟩,⟨8,0,143,⟨some 97,.bslice 3 1 [(.int .i64 0)] 1 [(0,1,(.tmp 96))],(some (92,true))⟩,none⟩,⟨10,2,15,⟨some 99,.load none (.tmp 11),(some (92,true))⟩,none⟩,⟨6,0,47,
 ⟨some 95,.call (.func 73) [(.tmp 94)],(some (92,true))⟩,none⟩,⟨9,1,495,⟨some 98,.app 3 1 8 [(.int .i64 0)] (.tmp 95) (.tmp 97),(some (92,true))⟩,none⟩,⟨11,2,2047,⟨some 100,.call
 (.tmp 93) [(.tmp 98),(.tmp 99)],(some (92,true))⟩,none⟩,⟨12,2,4095,⟨some 101,.un .not (.tmp 100),(some (92,true))⟩,none⟩,⟨13,2,8191,⟨some 102,.pick (.tmp 92) (.tmp 101) (.const
 (.bool false)),none⟩,none⟩]) ( .cond (.tmp 102) ( .seq (.region 0 [⟨some 8,.mv (.const (.bool false)),none⟩]) ( .ret)) ( .skip))))))) ( .region 0 [⟨some 103,.bin .add (.tmp 36) (.const (.int
 .i64 1)),none⟩,⟨some 36,.mv (.tmp 103),none⟩]))))))) ( .seq (.region 0 [⟨some 8,.mv (.const (.bool true)),none⟩]) ( .ret))))⟩
def f151 : IFn:=⟨6,[.tmp 2],.seq (.region 0 [⟨some 2,.mv (.const (.bool false)),none⟩]) ( .seq (.region 0 [⟨some 3,.mv (.tmp 0),none⟩,⟨some 4,.mv (.tmp 0),none⟩,⟨some 5,.bin .neq (.tmp 3) (.tmp 4),none⟩,
 ⟨some 2,.mv (.tmp 5),none⟩]) ( .ret))⟩
def f153 : IFn:=⟨19,[.tmp 4],.seq (.region 1 [⟨some 3,.box 86 (.tmp 1),none⟩,⟨some 4,.mv (.const (.int .i64 0)),none⟩]) ( .seq (.seq (.region 0 [⟨some 6,.mv (.tmp 0),none⟩,⟨some 7,.ln (.tmp 6),none⟩,
 ⟨some 8,.mv (.const (.int .i64 0)),none⟩]) ( .block 0 ( .loop ( .seq (.region 0 [⟨some 9,.bin .lss (.tmp 8) (.tmp 7),none⟩]) ( .seq (.cond (.tmp 9) ( .skip) ( .exit 0)) ( .seq (.block 1 ( .seq
 (.region 0 [⟨some 10,.mv (.tmp 8),none⟩,⟨some 5,.mv (.tmp 10),none⟩]) ( .seq (.draw 0 [⟨0,0,0,⟨some 11,.load (some 3) (.tmp 3),none⟩,none⟩,⟨1,0,0,⟨some 12,.mv (.tmp 0),none⟩,none⟩,
 ⟨2,0,0,⟨some 13,.mv (.tmp 5),none⟩,none⟩,⟨3,0,6,⟨some 14,.idxA none 3 (.tmp 12) (.tmp 13),none⟩,none⟩,⟨4,0,14,⟨some 15,.load (some 3) (.tmp 14),none⟩,none⟩,⟨5,0,31,⟨some 16,
 .eqc false [(.int .i64),(.int .i64),(.int .i64)] true (.tmp 11) (.tmp 15),none⟩,none⟩]) ( .cond (.tmp 16) ( .seq (.region 0 [⟨some 17,.mv (.tmp 5),none⟩,⟨some 4,.mv (.tmp 17),none⟩]) (
 .ret)) ( .skip))))) ( .region 0 [⟨some 18,.bin .add (.tmp 8) (.const (.int .i64 1)),none⟩,⟨some 8,.mv (.tmp 18),none⟩]))))))) ( .seq (.region 0 [⟨some 4,.mv (.const (.int .i64 (-1))),none⟩]) (
 .ret)))⟩
def f162 : IFn:=⟨15,[.tmp 4],.seq (.region 1 [⟨some 2,.box 24 (.tmp 0),none⟩,⟨some 4,.mv (.const (.int .i64 0)),none⟩]) ( .seq (.seq (.region 0 [⟨some 6,.load (some 2) (.tmp 2),none⟩,⟨some 7,.call (.func
 69) [(.tmp 6)],none⟩,⟨some 5,.mv (.tmp 7),none⟩]) ( .seq (.region 0 [⟨some 8,.mv (.tmp 5),none⟩,⟨some 9,.bin .neq (.tmp 8) (.const (.int .i64 0)),none⟩]) ( .cond (.tmp 9) ( .seq (.region 0
 [⟨some 10,.mv (.tmp 5),none⟩,⟨some 4,.mv (.tmp 10),none⟩]) ( .ret)) ( .skip)))) ( .seq (.region 0 [⟨some 11,.fldA 0 (.tmp 2),none⟩,⟨some 12,.load none (.tmp 11),none⟩,⟨some 13,.mv (.tmp
 1),none⟩,⟨some 14,.call (.func 84) [(.tmp 12),(.tmp 13)],none⟩,⟨some 4,.mv (.tmp 14),none⟩]) ( .ret)))⟩
def f163 : IFn:=⟨22,[.tmp 4],.seq (.region 1 [⟨some 2,.box 24 (.tmp 0),none⟩,⟨some 4,.mv (.const (.int .i64 0)),none⟩]) ( .seq (.region 0 [⟨some 5,.mv (.const (.int .i64 0)),none⟩]) ( .seq (.seq (.region 0
 [⟨some 8,.load (some 2) (.tmp 2),none⟩,⟨some 9,.mv (.tmp 1),none⟩,⟨some 10,.call (.func 186) [(.tmp 8),(.tmp 9)],none⟩,⟨some 11,.ln (.tmp 10),none⟩,⟨some 12,.mv (.const (.int .i64 0)),
 none⟩]) ( .block 0 ( .loop ( .seq (.region 0 [⟨some 13,.bin .lss (.tmp 12) (.tmp 11),none⟩]) ( .seq (.cond (.tmp 13) ( .skip) ( .exit 0)) ( .seq (.block 1 ( .seq (.region 1 [⟨some 14,.idxA none 3
 (.tmp 10) (.tmp 12),none⟩,⟨some 15,.load (some 3) (.tmp 14),none⟩,⟨some 7,.alloc 232 [(.int .i64 0),(.int .i64 0),(.int .i64 0)],none⟩,⟨none,.store 3 (.tmp 7) (.tmp 15),none⟩]) ( .region
 0 [⟨some 16,.mv (.tmp 5),none⟩,⟨some 17,.fldA 2 (.tmp 7),none⟩,⟨some 18,.load none (.tmp 17),none⟩,⟨some 19,.bin .add (.tmp 16) (.tmp 18),none⟩,⟨some 5,.mv (.tmp 19),none⟩]))) ( .region
 0 [⟨some 20,.bin .add (.tmp 12) (.const (.int .i64 1)),none⟩,⟨some 12,.mv (.tmp 20),none⟩]))))))) ( .seq (.region 0 [⟨some 21,.mv (.tmp 5),none⟩,⟨some 4,.mv (.tmp 21),none⟩]) ( .ret))))⟩
def f186 : IFn:=⟨41,[.tmp 4],.seq (.region 1 [⟨some 2,.box 24 (.tmp 0),none⟩,⟨some 4,.mv (.const (.slice none 0 0)),none⟩]) ( .seq (.region 0 [⟨some 9,.mv (.tmp 1),none⟩,⟨some 10,.call (.func 196) [(.tmp
 9)],none⟩,⟨some 5,.mv (.tmp 10),none⟩]) ( .seq (.region 0 [⟨some 6,.mv (.const (.slice none 0 0)),none⟩]) ( .seq (.seq (.region 0 [⟨some 11,.fldA 1 (.tmp 2),none⟩,⟨some 12,.load none (.tmp
 11),none⟩,⟨some 13,.ln (.tmp 12),none⟩,⟨some 14,.mv (.const (.int .i64 0)),none⟩]) ( .block 0 ( .loop ( .seq (.region 0 [⟨some 15,.bin .lss (.tmp 14) (.tmp 13),none⟩]) ( .seq (.cond (.tmp
 15) ( .skip) ( .exit 0)) ( .seq (.block 1 ( .seq (.region 1 [⟨some 16,.idxA none 4 (.tmp 12) (.tmp 14),none⟩,⟨some 17,.load (some 4) (.tmp 16),none⟩,⟨some 8,.alloc 181 [(.int .i64 0),(.int
 .i64 0),(.int .i64 0),(.int .i64 0)],none⟩,⟨none,.store 4 (.tmp 8) (.tmp 17),none⟩]) ( .seq (.draw 0 [⟨0,0,0,⟨some 18,.mv (.tmp 5),none⟩,none⟩,⟨1,0,0,⟨some 19,.fldA 0 (.tmp 8),
 none⟩,none⟩,⟨2,0,2,⟨some 20,.load none (.tmp 19),none⟩,none⟩,⟨3,0,7,⟨some 21,.idxA none 1 (.tmp 18) (.tmp 20),none⟩,none⟩,⟨4,0,15,⟨some 22,.load none (.tmp 21),none⟩,none⟩,⟨5,
 0,0,⟨some 23,.mv (.tmp 5),none⟩,none⟩,⟨6,0,0,⟨some 24,.fldA 1 (.tmp 8),none⟩,none⟩,⟨7,0,64,⟨some 25,.load none (.tmp 24),none⟩,none⟩,⟨8,0,224,⟨some 26,.idxA none 1 (.tmp 23)
 (.tmp 25),none⟩,none⟩,⟨9,0,480,⟨some 27,.load none (.tmp 26),none⟩,none⟩,⟨10,0,1023,⟨some 28,.bin .gtr (.tmp 22) (.tmp 27),none⟩,none⟩]) ( .cond (.tmp 28) ( .region 2 [⟨some 29,.mv
 (.tmp 6),none⟩,⟨some 30,.fldA 0 (.tmp 8),none⟩,⟨some 31,.load none (.tmp 30),none⟩,⟨some 32,.fldA 1 (.tmp 8),none⟩,⟨some 33,.load none (.tmp 32),none⟩,⟨some 34,.fldA 3 (.tmp 8),none⟩,
 ⟨some 35,.load none (.tmp 34),none⟩,⟨some 36,.build [(.int .i64 0),(.int .i64 0),(.int .i64 0)] [(0,1,(.tmp 31)),(1,1,(.tmp 33)),(2,1,(.tmp 35))],none⟩,⟨some 37,.bslice 232 3 [(.int
 .i64 0),(.int .i64 0),(.int .i64 0)] 1 [(0,3,(.tmp 36))],none⟩,⟨some 38,.app 232 3 24 [(.int .i64 0),(.int .i64 0),(.int .i64 0)] (.tmp 29) (.tmp 37),none⟩,⟨some 6,.mv (.tmp 38),none⟩])
 ( .skip))))) ( .region 0 [⟨some 39,.bin .add (.tmp 14) (.const (.int .i64 1)),none⟩,⟨some 14,.mv (.tmp 39),none⟩]))))))) ( .seq (.region 0 [⟨some 40,.mv (.tmp 6),none⟩,⟨some 4,.mv (.tmp 40),
 none⟩]) ( .ret)))))⟩
def f196 : IFn:=⟨22,[.tmp 2],.seq (.region 0 [⟨some 2,.mv (.const (.slice none 0 0)),none⟩]) ( .seq (.region 1 [⟨some 6,.mv (.tmp 0),none⟩,⟨some 7,.ln (.tmp 6),none⟩,⟨some 8,.mksl 3 1 8 [(.int .i64 0)]
 (.tmp 7) (.tmp 7),none⟩,⟨some 3,.mv (.tmp 8),none⟩]) ( .seq (.seq (.region 0 [⟨some 9,.mv (.tmp 0),none⟩,⟨some 10,.ln (.tmp 9),none⟩,⟨some 11,.mv (.const (.int .i64 0)),none⟩]) ( .block 0
 ( .loop ( .seq (.region 0 [⟨some 12,.bin .lss (.tmp 11) (.tmp 10),none⟩]) ( .seq (.cond (.tmp 12) ( .skip) ( .exit 0)) ( .seq (.block 1 ( .seq (.region 0 [⟨some 13,.mv (.tmp 11),none⟩,⟨some 14,
 .idxA none 1 (.tmp 9) (.tmp 11),none⟩,⟨some 15,.load none (.tmp 14),none⟩,⟨some 4,.mv (.tmp 13),none⟩,⟨some 5,.mv (.tmp 15),none⟩]) ( .region 0 [⟨some 16,.mv (.tmp 3),none⟩,⟨some 17,.mv
 (.tmp 5),none⟩,⟨some 18,.mv (.tmp 4),none⟩,⟨some 19,.idxA none 1 (.tmp 16) (.tmp 17),none⟩,⟨none,.store 1 (.tmp 19) (.tmp 18),none⟩]))) ( .region 0 [⟨some 20,.bin .add (.tmp 11) (.const
 (.int .i64 1)),none⟩,⟨some 11,.mv (.tmp 20),none⟩]))))))) ( .seq (.region 0 [⟨some 21,.mv (.tmp 3),none⟩,⟨some 2,.mv (.tmp 21),none⟩]) ( .ret))))⟩
end Go.Gx.A
