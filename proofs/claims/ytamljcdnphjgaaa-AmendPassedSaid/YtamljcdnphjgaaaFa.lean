/-
  Functions of this seat, as the abstract machine runs them (printed by a program of mine), part 1.
-/
import Derived.Test.YtamljcdnphjgaaaGe
set_option linter.all false
set_option linter.deprecated false
set_option linter.unusedSimpArgs false
set_option linter.unusedVariables false
namespace Go.Gx.A
open Go.Gx
def f22 : IFn:=⟨174,[.tmp 6],.seq (.region 1 [⟨some 3,.box 24 (.tmp 0),none⟩,⟨some 6,.mv (.const (.bool false)),none⟩]) ( .seq (.seq (.region 0 [⟨some 22,.fldA 0 (.tmp 3),none⟩,⟨some 23,.load none (.tmp
 22),none⟩,⟨some 24,.bin .gtr (.tmp 23) (.const (.int .i64 8)),none⟩,⟨some 25,.mv (.tmp 24),none⟩,⟨some 26,.mv (.tmp 1),(some (25,false))⟩,⟨some 27,.ln (.tmp 26),(some (25,false))⟩,
 ⟨some 28,.bin .gtr (.tmp 27) (.const (.int .i64 8)),(some (25,false))⟩,⟨some 29,.pick (.tmp 25) (.const (.bool true)) (.tmp 28),none⟩,⟨some 30,.mv (.tmp 29),none⟩,⟨some 31,.mv (.tmp 2),
 (some (30,false))⟩,⟨some 32,.ln (.tmp 31),(some (30,false))⟩,⟨some 33,.bin .gtr (.tmp 32) (.const (.int .i64 8)),(some (30,false))⟩,⟨some 34,.pick (.tmp 30) (.const (.bool true)) (.tmp
 33),none⟩]) ( .cond (.tmp 34) ( .seq (.region 0 [⟨some 35,.call (.func 23) [],none⟩,⟨some 6,.mv (.tmp 35),none⟩]) ( .ret)) ( .skip))) ( .seq (.seq (.region 0 [⟨some 36,.mv (.tmp 2),none⟩,
 ⟨some 37,.ln (.tmp 36),none⟩,⟨some 38,.mv (.const (.int .i64 0)),none⟩]) ( .block 0 ( .loop ( .seq (.region 0 [⟨some 39,.bin .lss (.tmp 38) (.tmp 37),none⟩]) ( .seq (.cond (.tmp 39) ( .skip) (
 .exit 0)) ( .seq (.block 1 ( .seq (.region 1 [⟨some 40,.idxA none 4 (.tmp 36) (.tmp 38),none⟩,⟨some 41,.load (some 4) (.tmp 40),none⟩,⟨some 8,.alloc 89 [(.int .u8 0),(.int .i64 0),(.int .i64
 0),(.slice none 0 0)],none⟩,⟨none,.store 4 (.tmp 8) (.tmp 41),none⟩]) ( .seq (.region 0 [⟨some 42,.fldA 2 (.tmp 8),none⟩,⟨some 43,.fldA 0 (.tmp 42),none⟩,⟨some 44,.load none (.tmp 43),
 none⟩,⟨some 45,.bin .gtr (.tmp 44) (.const (.int .i64 8)),none⟩]) ( .cond (.tmp 45) ( .seq (.region 0 [⟨some 46,.call (.func 23) [],none⟩,⟨some 6,.mv (.tmp 46),none⟩]) ( .ret)) ( .skip))))) (
 .region 0 [⟨some 47,.bin .add (.tmp 38) (.const (.int .i64 1)),none⟩,⟨some 38,.mv (.tmp 47),none⟩]))))))) ( .seq (.region 0 [⟨some 49,.load (some 2) (.tmp 3),none⟩,⟨some 50,.mv (.tmp 1),
 none⟩,⟨some 51,.mv (.tmp 2),none⟩,⟨some 52,.call (.func 66) [(.tmp 49),(.tmp 50),(.tmp 51)],none⟩,⟨some 48,.mv (.tmp 52),none⟩,⟨some 53,.extr (.tmp 48) 0,none⟩,⟨some 54,.extr (.tmp
 48) 1,none⟩,⟨some 9,.mv (.tmp 53),none⟩,⟨some 10,.mv (.tmp 54),none⟩]) ( .seq (.seq (.region 0 [⟨some 55,.mv (.tmp 10),none⟩,⟨some 56,.bin .neq (.tmp 55) (.const (.int .i64 0)),none⟩]) (
 .cond (.tmp 56) ( .seq (.region 0 [⟨some 57,.call (.func 23) [],none⟩,⟨some 58,.mv (.tmp 57),none⟩,⟨some 59,.mv (.tmp 9),(some (58,true))⟩,⟨some 60,.ln (.tmp 59),(some (58,true))⟩,⟨some
 61,.bin .eql (.tmp 60) (.const (.int .i64 0)),(some (58,true))⟩,⟨some 62,.pick (.tmp 58) (.tmp 61) (.const (.bool false)),none⟩,⟨some 6,.mv (.tmp 62),none⟩]) ( .ret)) ( .skip))) ( .seq
 (.region 0 [⟨some 64,.load (some 2) (.tmp 3),none⟩,⟨some 65,.mv (.tmp 1),none⟩,⟨some 66,.mv (.tmp 2),none⟩,⟨some 67,.mv (.tmp 9),none⟩,⟨some 68,.call (.func 67) [(.tmp 64),(.tmp 65),
 (.tmp 66),(.tmp 67)],none⟩,⟨some 63,.mv (.tmp 68),none⟩,⟨some 69,.extr (.tmp 63) 0,none⟩,⟨some 70,.extr (.tmp 63) 1,none⟩,⟨some 11,.mv (.tmp 69),none⟩,⟨some 12,.mv (.tmp 70),none⟩])
 ( .seq (.seq (.region 0 [⟨some 71,.mv (.tmp 11),none⟩,⟨some 72,.un .not (.tmp 71),none⟩,⟨some 73,.mv (.tmp 72),none⟩,⟨some 74,.mv (.tmp 12),(some (73,false))⟩,⟨some 75,.bin .neq (.tmp
 74) (.const (.int .i64 0)),(some (73,false))⟩,⟨some 76,.pick (.tmp 73) (.const (.bool true)) (.tmp 75),none⟩,⟨some 77,.mv (.tmp 76),none⟩,⟨some 78,.mv (.tmp 9),(some (77,false))⟩,⟨some
 79,.ln (.tmp 78),(some (77,false))⟩,⟨some 80,.mv (.tmp 2),(some (77,false))⟩,⟨some 81,.ln (.tmp 80),(some (77,false))⟩,⟨some 82,.bin .neq (.tmp 79) (.tmp 81),(some (77,false))⟩,⟨some
 83,.pick (.tmp 77) (.const (.bool true)) (.tmp 82),none⟩]) ( .cond (.tmp 83) ( .seq (.region 0 [⟨some 6,.mv (.const (.bool false)),none⟩]) ( .ret)) ( .skip))) ( .seq (.draw 0 [⟨0,0,0,⟨some 84,
 .mv (.tmp 1),none⟩,none⟩,⟨1,0,0,⟨some 85,.fldA 0 (.tmp 3),none⟩,none⟩,⟨2,0,2,⟨some 86,.load none (.tmp 85),none⟩,none⟩,⟨3,0,1,⟨some 13,.mv (.tmp 84),none⟩,none⟩,⟨4,0,9,
 ⟨some 14,.mv (.const (.int .i64 0)),none⟩,none⟩,⟨5,0,31,⟨some 15,.mv (.tmp 86),none⟩,none⟩]) ( .seq (.seq (.region 0 [⟨some 87,.mv (.tmp 9),none⟩,⟨some 88,.ln (.tmp 87),none⟩,⟨some
 89,.mv (.const (.int .i64 0)),none⟩]) ( .block 2 ( .loop ( .seq (.region 0 [⟨some 90,.bin .lss (.tmp 89) (.tmp 88),none⟩]) ( .seq (.cond (.tmp 90) ( .skip) ( .exit 2)) ( .seq (.block 3 ( .seq
 (.region 0 [⟨some 91,.mv (.tmp 89),none⟩,⟨some 92,.idxA none 1 (.tmp 87) (.tmp 89),none⟩,⟨some 93,.load none (.tmp 92),none⟩,⟨some 16,.mv (.tmp 91),none⟩,⟨some 17,.mv (.tmp 93),none⟩])
 ( .seq (.seq (.region 0 [⟨some 94,.mv (.tmp 2),none⟩,⟨some 95,.mv (.tmp 16),none⟩,⟨some 96,.idxA none 4 (.tmp 94) (.tmp 95),none⟩,⟨some 97,.fldA 0 (.tmp 96),none⟩,⟨some 98,.load none
 (.tmp 97),none⟩]) ( .block 4 ( .seq (.region 0 [⟨some 100,.bin .eql (.tmp 98) (.const (.int .u8 1)),none⟩,⟨some 99,.mv (.tmp 100),none⟩]) ( .cond (.tmp 99) ( .region 0 [⟨some 101,.mv (.tmp
 14),none⟩,⟨some 102,.bin .add (.tmp 101) (.const (.int .i64 1)),none⟩,⟨some 14,.mv (.tmp 102),none⟩]) ( .seq (.region 0 [⟨some 104,.bin .eql (.tmp 98) (.const (.int .u8 2)),none⟩,⟨some 103,
 .mv (.tmp 104),none⟩]) ( .cond (.tmp 103) ( .seq (.region 0 [⟨some 105,.mv (.tmp 15),none⟩,⟨some 106,.bin .sub (.tmp 105) (.const (.int .i64 1)),none⟩,⟨some 15,.mv (.tmp 106),none⟩]) ( .seq
 (.region 0 [⟨some 18,.mv (.const (.slice none 0 0)),none⟩]) ( .seq (.seq (.region 0 [⟨some 107,.mv (.tmp 13),none⟩,⟨some 108,.ln (.tmp 107),none⟩,⟨some 109,.mv (.const (.int .i64 0)),
 none⟩]) ( .block 5 ( .loop ( .seq (.region 0 [⟨some 110,.bin .lss (.tmp 109) (.tmp 108),none⟩]) ( .seq (.cond (.tmp 110) ( .skip) ( .exit 5)) ( .seq (.block 6 ( .seq (.region 0 [⟨some 111,.idxA
 none 1 (.tmp 107) (.tmp 109),none⟩,⟨some 112,.load none (.tmp 111),none⟩,⟨some 20,.mv (.tmp 112),none⟩]) ( .seq (.seq (.region 0 [⟨some 113,.mv (.tmp 20),none⟩,⟨some 114,.mv (.tmp 2),
 none⟩,⟨some 115,.mv (.tmp 16),none⟩,⟨some 116,.idxA none 4 (.tmp 114) (.tmp 115),none⟩,⟨some 117,.fldA 1 (.tmp 116),none⟩,⟨some 118,.load none (.tmp 117),none⟩,⟨some 119,.bin .gtr (.tmp
 113) (.tmp 118),none⟩]) ( .cond (.tmp 119) ( .region 2 [⟨some 120,.mv (.tmp 18),none⟩,⟨some 121,.mv (.tmp 20),none⟩,⟨some 122,.bin .sub (.tmp 121) (.const (.int .i64 1)),none⟩,⟨some 123,
 .bslice 3 1 [(.int .i64 0)] 1 [(0,1,(.tmp 122))],none⟩,⟨some 124,.app 3 1 8 [(.int .i64 0)] (.tmp 120) (.tmp 123),none⟩,⟨some 18,.mv (.tmp 124),none⟩]) ( .skip))) ( .seq (.region 0 [⟨some
 125,.mv (.tmp 20),none⟩,⟨some 126,.mv (.tmp 2),none⟩,⟨some 127,.mv (.tmp 16),none⟩,⟨some 128,.idxA none 4 (.tmp 126) (.tmp 127),none⟩,⟨some 129,.fldA 1 (.tmp 128),none⟩,⟨some 130,
 .load none (.tmp 129),none⟩,⟨some 131,.bin .lss (.tmp 125) (.tmp 130),none⟩]) ( .cond (.tmp 131) ( .region 2 [⟨some 132,.mv (.tmp 18),none⟩,⟨some 133,.mv (.tmp 20),none⟩,⟨some 134,.bslice
 3 1 [(.int .i64 0)] 1 [(0,1,(.tmp 133))],none⟩,⟨some 135,.app 3 1 8 [(.int .i64 0)] (.tmp 132) (.tmp 134),none⟩,⟨some 18,.mv (.tmp 135),none⟩]) ( .skip)))))) ( .region 0 [⟨some 136,.bin
 .add (.tmp 109) (.const (.int .i64 1)),none⟩,⟨some 109,.mv (.tmp 136),none⟩]))))))) ( .region 0 [⟨some 137,.mv (.tmp 18),none⟩,⟨some 13,.mv (.tmp 137),none⟩])))) ( .seq (.region 0 [⟨some
 139,.bin .eql (.tmp 98) (.const (.int .u8 3)),none⟩,⟨some 138,.mv (.tmp 139),none⟩]) ( .cond (.tmp 138) ( .region 0 [⟨some 140,.mv (.tmp 15),none⟩,⟨some 141,.bin .add (.tmp 140) (.const
 (.int .i64 1)),none⟩,⟨some 15,.mv (.tmp 141),none⟩]) ( .skip))))))))) ( .seq (.seq (.draw 0 [⟨0,0,0,⟨some 142,.mv (.tmp 17),none⟩,none⟩,⟨1,0,1,⟨some 143,.ln (.tmp 142),none⟩,none⟩,
 ⟨2,0,0,⟨some 144,.mv (.tmp 15),none⟩,none⟩,⟨3,0,7,⟨some 145,.bin .neq (.tmp 143) (.tmp 144),none⟩,none⟩,⟨4,0,15,⟨some 146,.mv (.tmp 145),none⟩,none⟩,⟨5,0,31,⟨some 147,.mv
 (.tmp 14),(some (146,false))⟩,none⟩,⟨6,0,31,⟨some 148,.mv (.tmp 13),(some (146,false))⟩,none⟩,⟨7,0,95,⟨some 149,.ln (.tmp 148),(some (146,false))⟩,none⟩,⟨8,0,255,⟨some 150,
 .bin .gtr (.tmp 147) (.tmp 149),(some (146,false))⟩,none⟩,⟨9,0,511,⟨some 151,.pick (.tmp 146) (.const (.bool true)) (.tmp 150),none⟩,none⟩,⟨10,0,1023,⟨some 152,.mv (.tmp 151),none⟩,
 none⟩,⟨11,0,2047,⟨some 153,.mv (.tmp 17),(some (152,false))⟩,none⟩,⟨12,0,2047,⟨some 154,.mv (.tmp 14),(some (152,false))⟩,none⟩,⟨13,0,8191,⟨some 155,.slc 3 1 (.tmp 153) none
 (some (.tmp 154)) none,(some (152,false))⟩,none⟩,⟨14,0,2047,⟨some 156,.mv (.tmp 13),(some (152,false))⟩,none⟩,⟨15,0,2047,⟨some 157,.mv (.tmp 14),(some (152,false))⟩,none⟩,⟨16,0,
 51199,⟨some 158,.slc 3 1 (.tmp 156) none (some (.tmp 157)) none,(some (152,false))⟩,none⟩,⟨17,0,131071,⟨some 159,.call (.func 40) [(.tmp 155),(.tmp 158)],(some (152,false))⟩,none⟩,⟨18,
 0,262143,⟨some 160,.un .not (.tmp 159),(some (152,false))⟩,none⟩,⟨19,0,524287,⟨some 161,.pick (.tmp 152) (.const (.bool true)) (.tmp 160),none⟩,none⟩]) ( .cond (.tmp 161) ( .seq (.region
 0 [⟨some 6,.mv (.const (.bool false)),none⟩]) ( .ret)) ( .skip))) ( .seq (.seq (.region 0 [⟨some 162,.mv (.tmp 15),none⟩,⟨some 163,.mv (.const (.int .i64 0)),none⟩]) ( .block 7 ( .loop ( .seq
 (.region 0 [⟨some 164,.bin .lss (.tmp 163) (.tmp 162),none⟩]) ( .seq (.cond (.tmp 164) ( .skip) ( .exit 7)) ( .seq (.block 8 ( .seq (.region 0 [⟨some 165,.mv (.tmp 163),none⟩,⟨some 21,.mv (.tmp
 165),none⟩]) ( .seq (.region 0 [⟨some 166,.mv (.tmp 17),none⟩,⟨some 167,.mv (.tmp 21),none⟩,⟨some 168,.call (.func 58) [(.tmp 166),(.tmp 167)],none⟩,⟨some 169,.un .not (.tmp 168),none⟩])
 ( .cond (.tmp 169) ( .seq (.region 0 [⟨some 6,.mv (.const (.bool false)),none⟩]) ( .ret)) ( .skip))))) ( .region 0 [⟨some 170,.bin .add (.tmp 163) (.const (.int .i64 1)),none⟩,⟨some 163,.mv
 (.tmp 170),none⟩]))))))) ( .region 0 [⟨some 171,.mv (.tmp 17),none⟩,⟨some 13,.mv (.tmp 171),none⟩])))))) ( .region 0 [⟨some 172,.bin .add (.tmp 89) (.const (.int .i64 1)),none⟩,⟨some 89,.mv
 (.tmp 172),none⟩]))))))) ( .seq (.region 0 [⟨some 173,.call (.func 23) [],none⟩,⟨some 6,.mv (.tmp 173),none⟩]) ( .ret))))))))))⟩
def f23 : IFn:=⟨146,[.tmp 0],.seq (.region 0 [⟨some 0,.mv (.const (.bool false)),none⟩]) ( .seq (.region 2 [⟨some 15,.call (.func 68) [],none⟩,⟨some 16,.bslice 3 1 [(.int .i64 0),(.int .i64 0),(.int .i64
 0)] 3 [(0,1,(.const (.int .i64 0))),(1,1,(.const (.int .i64 1))),(2,1,(.const (.int .i64 2)))],none⟩,⟨some 17,.build [(.int .i64 0),(.slice none 0 0),(.slice none 0 0),(.int .i64 0)]
 [(0,2,(.tmp 15)),(2,1,(.tmp 16))],none⟩,⟨some 1,.alloc 27 [(.int .i64 0),(.slice none 0 0),(.slice none 0 0),(.int .i64 0)],none⟩,⟨none,.store 4 (.tmp 1) (.tmp 17),none⟩]) ( .seq
 (.region 1 [⟨some 19,.load (some 4) (.tmp 1),none⟩,⟨some 20,.call (.func 34) [(.tmp 19)],none⟩,⟨some 18,.mv (.tmp 20),none⟩,⟨some 21,.extr (.tmp 18) 0,none⟩,⟨some 22,.extr (.tmp 18) 1,
 none⟩,⟨some 2,.alloc 44 [(.slice none 0 0),(.int .i64 0),(.int .i64 0),(.slice none 0 0)],none⟩,⟨none,.store 4 (.tmp 2) (.tmp 21),none⟩,⟨some 3,.mv (.tmp 22),none⟩]) ( .seq (.region 1
 [⟨some 24,.load (some 4) (.tmp 1),none⟩,⟨some 25,.call (.func 37) [(.tmp 24)],none⟩,⟨some 23,.mv (.tmp 25),none⟩,⟨some 26,.extr (.tmp 23) 0,none⟩,⟨some 27,.extr (.tmp 23) 1,none⟩,⟨some
 4,.alloc 50 [(.slice none 0 0)],none⟩,⟨none,.store 1 (.tmp 4) (.tmp 26),none⟩,⟨some 5,.mv (.tmp 27),none⟩]) ( .seq (.seq (.region 2 [⟨some 28,.mv (.tmp 3),none⟩,⟨some 29,.bin .neq (.tmp
 28) (.const (.int .i64 0)),none⟩,⟨some 30,.mv (.tmp 29),none⟩,⟨some 31,.mv (.tmp 5),(some (30,false))⟩,⟨some 32,.bin .neq (.tmp 31) (.const (.int .i64 0)),(some (30,false))⟩,⟨some 33,
 .pick (.tmp 30) (.const (.bool true)) (.tmp 32),none⟩,⟨some 34,.mv (.tmp 33),none⟩,⟨some 35,.fldA 0 (.tmp 2),(some (34,false))⟩,⟨some 36,.load none (.tmp 35),(some (34,false))⟩,⟨some 37,
 .bslice 3 1 [(.int .i64 0),(.int .i64 0),(.int .i64 0)] 3 [(0,1,(.const (.int .i64 2))),(1,1,(.const (.int .i64 0))),(2,1,(.const (.int .i64 1)))],(some (34,false))⟩,⟨some 38,.call
 (.func 40) [(.tmp 36),(.tmp 37)],(some (34,false))⟩,⟨some 39,.un .not (.tmp 38),(some (34,false))⟩,⟨some 40,.pick (.tmp 34) (.const (.bool true)) (.tmp 39),none⟩,⟨some 41,.mv (.tmp 40),
 none⟩,⟨some 42,.fldA 1 (.tmp 2),(some (41,false))⟩,⟨some 43,.load none (.tmp 42),(some (41,false))⟩,⟨some 44,.bin .neq (.tmp 43) (.const (.int .i64 0)),(some (41,false))⟩,⟨some 45,.pick
 (.tmp 41) (.const (.bool true)) (.tmp 44),none⟩,⟨some 46,.mv (.tmp 45),none⟩,⟨some 47,.fldA 2 (.tmp 2),(some (46,false))⟩,⟨some 48,.load none (.tmp 47),(some (46,false))⟩,⟨some 49,.bin
 .neq (.tmp 48) (.const (.int .i64 1)),(some (46,false))⟩,⟨some 50,.pick (.tmp 46) (.const (.bool true)) (.tmp 49),none⟩,⟨some 51,.mv (.tmp 50),none⟩,⟨some 52,.fldA 3 (.tmp 2),(some (51,
 false))⟩,⟨some 53,.load none (.tmp 52),(some (51,false))⟩,⟨some 54,.bslice 3 1 [(.int .i64 0),(.int .i64 0)] 2 [(0,1,(.const (.int .i64 0))),(1,1,(.const (.int .i64 1)))],(some (51,
 false))⟩,⟨some 55,.call (.func 40) [(.tmp 53),(.tmp 54)],(some (51,false))⟩,⟨some 56,.un .not (.tmp 55),(some (51,false))⟩,⟨some 57,.pick (.tmp 51) (.const (.bool true)) (.tmp 56),none⟩,
 ⟨some 58,.mv (.tmp 57),none⟩,⟨some 59,.fldA 0 (.tmp 4),(some (58,false))⟩,⟨some 60,.load none (.tmp 59),(some (58,false))⟩,⟨some 61,.ln (.tmp 60),(some (58,false))⟩,⟨some 62,.bin .neq
 (.tmp 61) (.const (.int .i64 6)),(some (58,false))⟩,⟨some 63,.pick (.tmp 58) (.const (.bool true)) (.tmp 62),none⟩]) ( .cond (.tmp 63) ( .seq (.region 0 [⟨some 0,.mv (.const (.bool false)),
 none⟩]) ( .ret)) ( .skip))) ( .seq (.region 0 [⟨some 64,.fldA 3 (.tmp 1),none⟩,⟨none,.store 1 (.tmp 64) (.const (.int .i64 1)),none⟩]) ( .seq (.region 1 [⟨some 66,.load (some 4) (.tmp 1),
 none⟩,⟨some 67,.call (.func 34) [(.tmp 66)],none⟩,⟨some 65,.mv (.tmp 67),none⟩,⟨some 68,.extr (.tmp 65) 0,none⟩,⟨some 69,.extr (.tmp 65) 1,none⟩,⟨some 6,.alloc 44 [(.slice none 0 0),
 (.int .i64 0),(.int .i64 0),(.slice none 0 0)],none⟩,⟨none,.store 4 (.tmp 6) (.tmp 68),none⟩,⟨some 7,.mv (.tmp 69),none⟩]) ( .seq (.region 1 [⟨some 71,.load (some 4) (.tmp 1),none⟩,⟨some
 72,.bslice 3 1 [(.int .i64 0),(.int .i64 0),(.int .i64 0)] 3 [(0,1,(.const (.int .i64 2))),(1,1,(.const (.int .i64 0))),(2,1,(.const (.int .i64 1)))],none⟩,⟨some 73,.call (.func 31)
 [(.tmp 71),(.tmp 72)],none⟩,⟨some 70,.mv (.tmp 73),none⟩,⟨some 74,.extr (.tmp 70) 0,none⟩,⟨some 75,.extr (.tmp 70) 1,none⟩,⟨some 76,.extr (.tmp 70) 2,none⟩,⟨some 8,.mv (.tmp 74),
 none⟩,⟨some 9,.mv (.tmp 75),none⟩,⟨some 10,.mv (.tmp 76),none⟩]) ( .seq (.region 0 [⟨some 78,.load (some 4) (.tmp 1),none⟩,⟨some 79,.call (.func 59) [(.tmp 78)],none⟩,⟨some 77,.mv (.tmp
 79),none⟩,⟨some 80,.extr (.tmp 77) 0,none⟩,⟨some 81,.extr (.tmp 77) 1,none⟩,⟨some 11,.mv (.tmp 80),none⟩,⟨some 12,.mv (.tmp 81),none⟩]) ( .seq (.region 2 [⟨some 83,.bslice 3 1 [(.int
 .i64 0),(.int .i64 0),(.int .i64 0)] 3 [(0,1,(.const (.int .i64 1))),(1,1,(.const (.int .i64 2))),(2,1,(.const (.int .i64 3)))],none⟩,⟨some 84,.bslice 3 1 [(.int .i64 0),(.int .i64 0),
 (.int .i64 0)] 3 [(0,1,(.const (.int .i64 3))),(1,1,(.const (.int .i64 1))),(2,1,(.const (.int .i64 5)))],none⟩,⟨some 85,.call (.func 26) [(.tmp 83),(.tmp 84)],none⟩,⟨some 82,.mv (.tmp
 85),none⟩,⟨some 86,.extr (.tmp 82) 0,none⟩,⟨some 87,.extr (.tmp 82) 1,none⟩,⟨some 13,.mv (.tmp 86),none⟩,⟨some 14,.mv (.tmp 87),none⟩]) ( .seq (.seq (.region 0 [⟨some 88,.mv (.tmp 7),
 none⟩,⟨some 89,.bin .neq (.tmp 88) (.const (.int .i64 0)),none⟩,⟨some 90,.mv (.tmp 89),none⟩,⟨some 91,.mv (.tmp 10),(some (90,false))⟩,⟨some 92,.bin .neq (.tmp 91) (.const (.int .i64
 70)),(some (90,false))⟩,⟨some 93,.pick (.tmp 90) (.const (.bool true)) (.tmp 92),none⟩,⟨some 94,.mv (.tmp 93),none⟩,⟨some 95,.mv (.tmp 12),(some (94,false))⟩,⟨some 96,.bin .neq (.tmp
 95) (.const (.int .i64 0)),(some (94,false))⟩,⟨some 97,.pick (.tmp 94) (.const (.bool true)) (.tmp 96),none⟩,⟨some 98,.mv (.tmp 97),none⟩,⟨some 99,.mv (.tmp 11),(some (98,false))⟩,⟨some
 100,.bin .neq (.tmp 99) (.const (.int .i64 1)),(some (98,false))⟩,⟨some 101,.pick (.tmp 98) (.const (.bool true)) (.tmp 100),none⟩,⟨some 102,.mv (.tmp 101),none⟩,⟨some 103,.mv (.tmp 14),
 (some (102,false))⟩,⟨some 104,.bin .neq (.tmp 103) (.const (.int .i64 0)),(some (102,false))⟩,⟨some 105,.pick (.tmp 102) (.const (.bool true)) (.tmp 104),none⟩,⟨some 106,.mv (.tmp 105),
 none⟩,⟨some 107,.mv (.tmp 13),(some (106,false))⟩,⟨some 108,.ln (.tmp 107),(some (106,false))⟩,⟨some 109,.bin .neq (.tmp 108) (.const (.int .i64 3)),(some (106,false))⟩,⟨some 110,.pick
 (.tmp 106) (.const (.bool true)) (.tmp 109),none⟩]) ( .cond (.tmp 110) ( .seq (.region 0 [⟨some 0,.mv (.const (.bool false)),none⟩]) ( .ret)) ( .skip))) ( .seq (.region 1 [⟨some 111,.fldA 0 (.tmp
 6),none⟩,⟨some 112,.load none (.tmp 111),none⟩,⟨some 113,.bslice 3 1 [(.int .i64 0),(.int .i64 0),(.int .i64 0)] 3 [(0,1,(.const (.int .i64 0))),(1,1,(.const (.int .i64 1))),(2,1,
 (.const (.int .i64 2)))],none⟩,⟨some 114,.call (.func 40) [(.tmp 112),(.tmp 113)],none⟩,⟨some 115,.mv (.tmp 114),none⟩,⟨some 116,.fldA 1 (.tmp 6),(some (115,true))⟩,⟨some 117,.load none
 (.tmp 116),(some (115,true))⟩,⟨some 118,.bin .eql (.tmp 117) (.const (.int .i64 2)),(some (115,true))⟩,⟨some 119,.pick (.tmp 115) (.tmp 118) (.const (.bool false)),none⟩,⟨some 120,.mv
 (.tmp 119),none⟩,⟨some 121,.fldA 2 (.tmp 6),(some (120,true))⟩,⟨some 122,.load none (.tmp 121),(some (120,true))⟩,⟨some 123,.bin .eql (.tmp 122) (.const (.int .i64 0)),(some (120,
 true))⟩,⟨some 124,.pick (.tmp 120) (.tmp 123) (.const (.bool false)),none⟩,⟨some 125,.mv (.tmp 124),none⟩,⟨some 126,.mv (.tmp 13),(some (125,true))⟩,⟨some 127,.idxA none 3 (.tmp 126)
 (.const (.int .i64 0)),(some (125,true))⟩,⟨some 128,.load (some 3) (.tmp 127),(some (125,true))⟩,⟨some 129,.build [(.int .i64 0),(.int .i64 0),(.int .i64 0)] [(0,1,(.const (.int .i64
 2))),(1,1,(.const (.int .i64 1))),(2,1,(.const (.int .i64 (-1))))],(some (125,true))⟩,⟨some 130,.eqc false [(.int .i64),(.int .i64),(.int .i64)] true (.tmp 128) (.tmp 129),(some (125,
 true))⟩,⟨some 131,.pick (.tmp 125) (.tmp 130) (.const (.bool false)),none⟩,⟨some 132,.mv (.tmp 131),none⟩,⟨some 133,.mv (.tmp 13),(some (132,true))⟩,⟨some 134,.idxA none 3 (.tmp 133)
 (.const (.int .i64 1)),(some (132,true))⟩,⟨some 135,.load (some 3) (.tmp 134),(some (132,true))⟩,⟨some 136,.build [(.int .i64 0),(.int .i64 0),(.int .i64 0)] [(0,1,(.const (.int .i64
 3))),(1,1,(.const (.int .i64 1))),(2,1,(.const (.int .i64 0)))],(some (132,true))⟩,⟨some 137,.eqc false [(.int .i64),(.int .i64),(.int .i64)] true (.tmp 135) (.tmp 136),(some (132,
 true))⟩,⟨some 138,.pick (.tmp 132) (.tmp 137) (.const (.bool false)),none⟩,⟨some 139,.mv (.tmp 138),none⟩,⟨some 140,.mv (.tmp 13),(some (139,true))⟩,⟨some 141,.idxA none 3 (.tmp 140)
 (.const (.int .i64 2)),(some (139,true))⟩,⟨some 142,.load (some 3) (.tmp 141),(some (139,true))⟩,⟨some 143,.build [(.int .i64 0),(.int .i64 0),(.int .i64 0)] [(0,1,(.const (.int .i64
 5))),(1,1,(.const (.int .i64 (-1)))),(2,1,(.const (.int .i64 2)))],(some (139,true))⟩,⟨some 144,.eqc false [(.int .i64),(.int .i64),(.int .i64)] true (.tmp 142) (.tmp 143),(some (139,
 true))⟩,⟨some 145,.pick (.tmp 139) (.tmp 144) (.const (.bool false)),none⟩,⟨some 0,.mv (.tmp 145),none⟩]) ( .ret))))))))))))⟩
def f24 : IFn:=⟨58,[.tmp 2],.seq (.region 1 [⟨some 1,.box 27 (.tmp 0),none⟩,⟨some 2,.mv (.const (.int .i64 0)),none⟩]) ( .seq (.seq (.region 0 [⟨some 7,.fldA 0 (.tmp 1),none⟩,⟨some 8,.load (some 2) (.tmp
 7),none⟩,⟨some 9,.call (.func 69) [(.tmp 8)],none⟩,⟨some 3,.mv (.tmp 9),none⟩]) ( .seq (.region 0 [⟨some 10,.mv (.tmp 3),none⟩,⟨some 11,.bin .neq (.tmp 10) (.const (.int .i64 0)),none⟩])
 ( .cond (.tmp 11) ( .seq (.region 0 [⟨some 12,.mv (.tmp 3),none⟩,⟨some 2,.mv (.tmp 12),none⟩]) ( .ret)) ( .skip)))) ( .seq (.region 1 [⟨some 13,.mkmap,none⟩,⟨some 4,.mv (.tmp 13),none⟩]) (
 .seq (.seq (.region 0 [⟨some 14,.fldA 2 (.tmp 1),none⟩,⟨some 15,.load none (.tmp 14),none⟩,⟨some 16,.ln (.tmp 15),none⟩,⟨some 17,.mv (.const (.int .i64 0)),none⟩]) ( .block 0 ( .loop (
 .seq (.region 0 [⟨some 18,.bin .lss (.tmp 17) (.tmp 16),none⟩]) ( .seq (.cond (.tmp 18) ( .skip) ( .exit 0)) ( .seq (.block 1 ( .seq (.region 0 [⟨some 19,.idxA none 1 (.tmp 15) (.tmp 17),none⟩,
 ⟨some 20,.load none (.tmp 19),none⟩,⟨some 6,.mv (.tmp 20),none⟩]) ( .seq (.block 2 ( .seq (.region 0 [⟨some 22,.mv (.tmp 6),none⟩,⟨some 23,.bin .lss (.tmp 22) (.const (.int .i64 0)),none⟩,
 ⟨some 24,.mv (.tmp 23),none⟩,⟨some 25,.mv (.tmp 6),(some (24,false))⟩,⟨some 26,.fldA 0 (.tmp 1),(some (24,false))⟩,⟨some 27,.fldA 0 (.tmp 26),(some (24,false))⟩,⟨some 28,.load none
 (.tmp 27),(some (24,false))⟩,⟨some 29,.bin .geq (.tmp 25) (.tmp 28),(some (24,false))⟩,⟨some 30,.pick (.tmp 24) (.const (.bool true)) (.tmp 29),none⟩,⟨some 21,.mv (.tmp 30),none⟩]) (
 .cond (.tmp 21) ( .seq (.region 0 [⟨some 2,.mv (.const (.int .i64 1)),none⟩]) ( .ret)) ( .seq (.region 0 [⟨some 32,.mv (.tmp 4),none⟩,⟨some 33,.mv (.tmp 6),none⟩,⟨some 34,.look [(.int .i64)]
 false (.bool false) false (.tmp 32) (.tmp 33),none⟩,⟨some 31,.mv (.tmp 34),none⟩]) ( .cond (.tmp 31) ( .seq (.region 0 [⟨some 2,.mv (.const (.int .i64 6)),none⟩]) ( .ret)) ( .skip)))))) (
 .region 0 [⟨some 35,.mv (.tmp 4),none⟩,⟨some 36,.mv (.tmp 6),none⟩,⟨none,.mset [(.int .i64)] false (.tmp 35) (.tmp 36) (.const (.bool true)),none⟩])))) ( .region 0 [⟨some 37,.bin .add (.tmp
 17) (.const (.int .i64 1)),none⟩,⟨some 17,.mv (.tmp 37),none⟩]))))))) ( .seq (.block 3 ( .seq (.region 0 [⟨some 39,.fldA 3 (.tmp 1),none⟩,⟨some 40,.load none (.tmp 39),none⟩,⟨some 41,.bin
 .lss (.tmp 40) (.const (.int .i64 0)),none⟩,⟨some 42,.mv (.tmp 41),none⟩,⟨some 43,.fldA 3 (.tmp 1),(some (42,false))⟩,⟨some 44,.load none (.tmp 43),(some (42,false))⟩,⟨some 45,.fldA 2
 (.tmp 1),(some (42,false))⟩,⟨some 46,.load none (.tmp 45),(some (42,false))⟩,⟨some 47,.ln (.tmp 46),(some (42,false))⟩,⟨some 48,.bin .gtr (.tmp 44) (.tmp 47),(some (42,false))⟩,⟨some
 49,.pick (.tmp 42) (.const (.bool true)) (.tmp 48),none⟩,⟨some 38,.mv (.tmp 49),none⟩]) ( .cond (.tmp 38) ( .seq (.region 0 [⟨some 2,.mv (.const (.int .i64 1)),none⟩]) ( .ret)) ( .seq (.region
 0 [⟨some 51,.fldA 0 (.tmp 1),none⟩,⟨some 52,.fldA 0 (.tmp 51),none⟩,⟨some 53,.load none (.tmp 52),none⟩,⟨some 54,.fldA 3 (.tmp 1),none⟩,⟨some 55,.load none (.tmp 54),none⟩,⟨some 56,
 .bin .sub (.tmp 53) (.tmp 55),none⟩,⟨some 57,.bin .gtr (.tmp 56) (.const (.int .i64 8)),none⟩,⟨some 50,.mv (.tmp 57),none⟩]) ( .cond (.tmp 50) ( .seq (.region 0 [⟨some 2,.mv (.const (.int
 .i64 2)),none⟩]) ( .ret)) ( .skip)))))) ( .seq (.region 0 [⟨some 2,.mv (.const (.int .i64 0)),none⟩]) ( .ret))))))⟩
def f26 : IFn:=⟨101,[.tmp 4,.tmp 5],.seq (.region 0 [⟨some 4,.mv (.const (.slice none 0 0)),none⟩,⟨some 5,.mv (.const (.int .i64 0)),none⟩]) ( .seq (.seq (.region 1 [⟨some 16,.mv (.tmp 0),none⟩,⟨some 17,
 .mv (.tmp 1),none⟩,⟨some 18,.bslice 25 1 [(.slice none 0 0),(.slice none 0 0)] 2 [(0,1,(.tmp 16)),(1,1,(.tmp 17))],none⟩,⟨some 19,.call (.func 72) [(.tmp 18)],none⟩,⟨some 6,.mv (.tmp
 19),none⟩]) ( .seq (.region 0 [⟨some 20,.mv (.tmp 6),none⟩,⟨some 21,.bin .neq (.tmp 20) (.const (.int .i64 0)),none⟩]) ( .cond (.tmp 21) ( .seq (.region 0 [⟨some 22,.mv (.tmp 6),none⟩,⟨some
 4,.mv (.const (.slice none 0 0)),none⟩,⟨some 5,.mv (.tmp 22),none⟩]) ( .ret)) ( .skip)))) ( .seq (.region 0 [⟨some 23,.mv (.tmp 0),none⟩,⟨some 24,.call (.func 73) [(.tmp 23)],none⟩,⟨some
 7,.mv (.tmp 24),none⟩]) ( .seq (.region 0 [⟨some 8,.mv (.const (.slice none 0 0)),none⟩]) ( .seq (.seq (.region 0 [⟨some 25,.mv (.tmp 0),none⟩,⟨some 26,.ln (.tmp 25),none⟩,⟨some 27,.mv
 (.const (.int .i64 0)),none⟩]) ( .block 0 ( .loop ( .seq (.region 0 [⟨some 28,.bin .lss (.tmp 27) (.tmp 26),none⟩]) ( .seq (.cond (.tmp 28) ( .skip) ( .exit 0)) ( .seq (.block 1 ( .seq (.region 0
 [⟨some 29,.idxA none 1 (.tmp 25) (.tmp 27),none⟩,⟨some 30,.load none (.tmp 29),none⟩,⟨some 10,.mv (.tmp 30),none⟩]) ( .seq (.region 0 [⟨some 31,.mv (.tmp 1),none⟩,⟨some 32,.mv (.tmp 10),
 none⟩,⟨some 33,.call (.func 74) [(.tmp 31),(.tmp 32)],none⟩,⟨some 34,.un .not (.tmp 33),none⟩]) ( .cond (.tmp 34) ( .seq (.region 0 [⟨some 35,.mv (.tmp 7),none⟩,⟨some 36,.mv (.tmp 10),
 none⟩,⟨some 37,.call (.func 75) [(.tmp 35),(.tmp 36)],none⟩,⟨some 11,.mv (.tmp 37),none⟩]) ( .seq (.region 2 [⟨some 38,.mv (.tmp 8),none⟩,⟨some 39,.mv (.tmp 10),none⟩,⟨some 40,.mv (.tmp
 11),none⟩,⟨some 41,.build [(.int .i64 0),(.int .i64 0),(.int .i64 0)] [(0,1,(.tmp 39)),(1,1,(.tmp 40)),(2,1,(.const (.int .i64 (-1))))],none⟩,⟨some 42,.bslice 97 3 [(.int .i64 0),
 (.int .i64 0),(.int .i64 0)] 1 [(0,3,(.tmp 41))],none⟩,⟨some 43,.app 97 3 24 [(.int .i64 0),(.int .i64 0),(.int .i64 0)] (.tmp 38) (.tmp 42),none⟩,⟨some 8,.mv (.tmp 43),none⟩]) ( .region
 0 [⟨some 44,.mv (.tmp 7),none⟩,⟨some 45,.mv (.tmp 11),none⟩,⟨some 46,.mv (.tmp 11),none⟩,⟨some 47,.bin .add (.tmp 46) (.const (.int .i64 1)),none⟩,⟨some 48,.call (.func 76) [(.tmp 44),
 (.tmp 45),(.tmp 47)],none⟩,⟨some 7,.mv (.tmp 48),none⟩]))) ( .skip))))) ( .region 0 [⟨some 49,.bin .add (.tmp 27) (.const (.int .i64 1)),none⟩,⟨some 27,.mv (.tmp 49),none⟩]))))))) ( .seq
 (.region 0 [⟨some 50,.mv (.tmp 0),none⟩,⟨some 51,.mv (.tmp 1),none⟩,⟨some 52,.call (.func 77) [(.tmp 50),(.tmp 51)],none⟩,⟨some 12,.mv (.tmp 52),none⟩]) ( .seq (.seq (.region 0 [⟨some 53,
 .mv (.tmp 1),none⟩,⟨some 54,.ln (.tmp 53),none⟩,⟨some 55,.mv (.const (.int .i64 0)),none⟩]) ( .block 2 ( .loop ( .seq (.region 0 [⟨some 56,.bin .lss (.tmp 55) (.tmp 54),none⟩]) ( .seq (.cond
 (.tmp 56) ( .skip) ( .exit 2)) ( .seq (.block 3 ( .seq (.region 0 [⟨some 57,.mv (.tmp 55),none⟩,⟨some 58,.idxA none 1 (.tmp 53) (.tmp 55),none⟩,⟨some 59,.load none (.tmp 58),none⟩,⟨some 13,
 .mv (.tmp 57),none⟩,⟨some 14,.mv (.tmp 59),none⟩]) ( .seq (.seq (.region 0 [⟨some 60,.mv (.tmp 12),none⟩,⟨some 61,.mv (.tmp 14),none⟩,⟨some 62,.call (.func 74) [(.tmp 60),(.tmp 61)],
 none⟩]) ( .cond (.tmp 62) ( .exit 3) ( .skip))) ( .seq (.region 1 [⟨some 63,.mv (.tmp 14),none⟩,⟨some 64,.mv (.tmp 7),none⟩,⟨some 65,.mv (.tmp 14),none⟩,⟨some 66,.call (.func 75) [(.tmp
 64),(.tmp 65)],none⟩,⟨some 67,.build [(.int .i64 0),(.int .i64 0),(.int .i64 0)] [(0,1,(.tmp 63)),(1,1,(.tmp 66))],none⟩,⟨some 15,.alloc 97 [(.int .i64 0),(.int .i64 0),(.int .i64
 0)],none⟩,⟨none,.store 3 (.tmp 15) (.tmp 67),none⟩]) ( .seq (.seq (.region 0 [⟨some 68,.fldA 1 (.tmp 15),none⟩,⟨some 69,.load none (.tmp 68),none⟩,⟨some 70,.bin .geq (.tmp 69) (.const
 (.int .i64 0)),none⟩]) ( .cond (.tmp 70) ( .region 0 [⟨some 71,.mv (.tmp 7),none⟩,⟨some 72,.fldA 1 (.tmp 15),none⟩,⟨some 73,.load none (.tmp 72),none⟩,⟨some 74,.fldA 1 (.tmp 15),none⟩,
 ⟨some 75,.load none (.tmp 74),none⟩,⟨some 76,.bin .add (.tmp 75) (.const (.int .i64 1)),none⟩,⟨some 77,.call (.func 76) [(.tmp 71),(.tmp 73),(.tmp 76)],none⟩,⟨some 7,.mv (.tmp 77),
 none⟩]) ( .skip))) ( .seq (.seq (.region 0 [⟨some 78,.mv (.tmp 13),none⟩,⟨some 79,.bin .gtr (.tmp 78) (.const (.int .i64 0)),none⟩]) ( .cond (.tmp 79) ( .region 0 [⟨some 80,.mv (.tmp 7),none⟩,
 ⟨some 81,.mv (.tmp 1),none⟩,⟨some 82,.mv (.tmp 13),none⟩,⟨some 83,.bin .sub (.tmp 82) (.const (.int .i64 1)),none⟩,⟨some 84,.idxA none 1 (.tmp 81) (.tmp 83),none⟩,⟨some 85,.load none
 (.tmp 84),none⟩,⟨some 86,.call (.func 75) [(.tmp 80),(.tmp 85)],none⟩,⟨some 87,.bin .add (.tmp 86) (.const (.int .i64 1)),none⟩,⟨some 88,.fldA 2 (.tmp 15),none⟩,⟨none,.store 1 (.tmp 88)
 (.tmp 87),none⟩]) ( .skip))) ( .seq (.region 1 [⟨some 89,.mv (.tmp 7),none⟩,⟨some 90,.fldA 2 (.tmp 15),none⟩,⟨some 91,.load none (.tmp 90),none⟩,⟨some 92,.mv (.tmp 14),none⟩,⟨some 93,
 .bslice 3 1 [(.int .i64 0)] 1 [(0,1,(.tmp 92))],none⟩,⟨some 94,.call (.func 78) [(.tmp 89),(.tmp 91),(.tmp 93)],none⟩,⟨some 7,.mv (.tmp 94),none⟩]) ( .region 2 [⟨some 95,.mv (.tmp 8),
 none⟩,⟨some 96,.load (some 3) (.tmp 15),none⟩,⟨some 97,.bslice 97 3 [(.int .i64 0),(.int .i64 0),(.int .i64 0)] 1 [(0,3,(.tmp 96))],none⟩,⟨some 98,.app 97 3 24 [(.int .i64 0),(.int .i64
 0),(.int .i64 0)] (.tmp 95) (.tmp 97),none⟩,⟨some 8,.mv (.tmp 98),none⟩])))))))) ( .region 0 [⟨some 99,.bin .add (.tmp 55) (.const (.int .i64 1)),none⟩,⟨some 55,.mv (.tmp 99),none⟩])))))))
 ( .seq (.region 0 [⟨some 100,.mv (.tmp 8),none⟩,⟨some 4,.mv (.tmp 100),none⟩,⟨some 5,.mv (.const (.int .i64 0)),none⟩]) ( .ret))))))))⟩
def f29 : IFn:=⟨30,[.tmp 4,.tmp 5],.seq (.region 1 [⟨some 2,.box 27 (.tmp 0),none⟩,⟨some 4,.mv (.const (.bool false)),none⟩,⟨some 5,.mv (.const (.int .i64 0)),none⟩]) ( .seq (.seq (.region 0 [⟨some 7,
 .load (some 4) (.tmp 2),none⟩,⟨some 8,.call (.func 24) [(.tmp 7)],none⟩,⟨some 6,.mv (.tmp 8),none⟩]) ( .seq (.region 0 [⟨some 9,.mv (.tmp 6),none⟩,⟨some 10,.bin .neq (.tmp 9) (.const (.int
 .i64 0)),none⟩]) ( .cond (.tmp 10) ( .seq (.region 0 [⟨some 11,.mv (.tmp 6),none⟩,⟨some 4,.mv (.const (.bool false)),none⟩,⟨some 5,.mv (.tmp 11),none⟩]) ( .ret)) ( .skip)))) ( .seq (.draw 0
 [⟨0,0,0,⟨some 12,.fldA 0 (.tmp 2),none⟩,none⟩,⟨1,0,1,⟨some 13,.fldA 0 (.tmp 12),none⟩,none⟩,⟨2,0,3,⟨some 14,.load none (.tmp 13),none⟩,none⟩,⟨3,0,0,⟨some 15,.mv (.tmp 1),
 none⟩,none⟩,⟨4,0,15,⟨some 16,.call (.func 84) [(.tmp 14),(.tmp 15)],none⟩,none⟩,⟨5,0,31,⟨some 17,.bin .eql (.tmp 16) (.const (.int .i64 0)),none⟩,none⟩,⟨6,0,63,⟨some 18,.mv (.tmp
 17),none⟩,none⟩,⟨7,0,127,⟨some 19,.mv (.tmp 1),(some (18,true))⟩,none⟩,⟨8,0,127,⟨some 20,.fldA 3 (.tmp 2),(some (18,true))⟩,none⟩,⟨9,0,383,⟨some 21,.load none (.tmp 20),(some
 (18,true))⟩,none⟩,⟨10,0,1023,⟨some 22,.slc 3 1 (.tmp 19) none (some (.tmp 21)) none,(some (18,true))⟩,none⟩,⟨11,0,127,⟨some 23,.fldA 2 (.tmp 2),(some (18,true))⟩,none⟩,⟨12,0,
 2175,⟨some 24,.load none (.tmp 23),(some (18,true))⟩,none⟩,⟨13,0,127,⟨some 25,.fldA 3 (.tmp 2),(some (18,true))⟩,none⟩,⟨14,0,8319,⟨some 26,.load none (.tmp 25),(some (18,true))⟩,
 none⟩,⟨15,0,30847,⟨some 27,.slc 3 1 (.tmp 24) none (some (.tmp 26)) none,(some (18,true))⟩,none⟩,⟨16,0,65535,⟨some 28,.call (.func 85) [(.tmp 22),(.tmp 27)],(some (18,true))⟩,none⟩,
 ⟨17,0,131071,⟨some 29,.pick (.tmp 18) (.tmp 28) (.const (.bool false)),none⟩,none⟩,⟨18,0,262143,⟨some 4,.mv (.tmp 29),none⟩,none⟩,⟨19,0,524287,⟨some 5,.mv (.const (.int .i64 0)),
 none⟩,none⟩]) ( .ret)))⟩
def f31 : IFn:=⟨36,[.tmp 4,.tmp 5,.tmp 6],.seq (.region 1 [⟨some 2,.box 27 (.tmp 0),none⟩,⟨some 4,.mv (.const (.int .i64 0)),none⟩,⟨some 5,.mv (.const (.int .i64 0)),none⟩,⟨some 6,.mv (.const (.int
 .i64 0)),none⟩]) ( .seq (.region 0 [⟨some 10,.load (some 4) (.tmp 2),none⟩,⟨some 11,.mv (.tmp 1),none⟩,⟨some 12,.call (.func 29) [(.tmp 10),(.tmp 11)],none⟩,⟨some 9,.mv (.tmp 12),none⟩,
 ⟨some 13,.extr (.tmp 9) 0,none⟩,⟨some 14,.extr (.tmp 9) 1,none⟩,⟨some 7,.mv (.tmp 13),none⟩,⟨some 6,.mv (.tmp 14),none⟩]) ( .seq (.block 0 ( .seq (.region 0 [⟨some 16,.mv (.tmp 6),none⟩,
 ⟨some 17,.bin .neq (.tmp 16) (.const (.int .i64 0)),none⟩,⟨some 15,.mv (.tmp 17),none⟩]) ( .cond (.tmp 15) ( .seq (.region 0 [⟨some 18,.mv (.tmp 6),none⟩,⟨some 4,.mv (.const (.int .i64 0)),
 none⟩,⟨some 5,.mv (.const (.int .i64 0)),none⟩,⟨some 6,.mv (.tmp 18),none⟩]) ( .ret)) ( .seq (.region 0 [⟨some 20,.fldA 0 (.tmp 2),none⟩,⟨some 21,.fldA 0 (.tmp 20),none⟩,⟨some 22,.load
 none (.tmp 21),none⟩,⟨some 23,.mv (.tmp 1),none⟩,⟨some 24,.call (.func 84) [(.tmp 22),(.tmp 23)],none⟩,⟨some 25,.bin .neq (.tmp 24) (.const (.int .i64 0)),none⟩,⟨some 19,.mv (.tmp 25),
 none⟩]) ( .cond (.tmp 19) ( .seq (.region 0 [⟨some 4,.mv (.const (.int .i64 0)),none⟩,⟨some 5,.mv (.const (.int .i64 0)),none⟩,⟨some 6,.mv (.const (.int .i64 1)),none⟩]) ( .ret)) ( .seq
 (.region 0 [⟨some 27,.mv (.tmp 7),none⟩,⟨some 28,.un .not (.tmp 27),none⟩,⟨some 26,.mv (.tmp 28),none⟩]) ( .cond (.tmp 26) ( .seq (.region 0 [⟨some 4,.mv (.const (.int .i64 0)),none⟩,⟨some
 5,.mv (.const (.int .i64 0)),none⟩,⟨some 6,.mv (.const (.int .i64 70)),none⟩]) ( .ret)) ( .skip)))))))) ( .seq (.region 1 [⟨some 29,.load (some 4) (.tmp 2),none⟩,⟨some 30,.mv (.tmp 1),
 none⟩,⟨some 31,.call (.func 88) [(.tmp 29),(.tmp 30)],none⟩,⟨some 8,.alloc 110 [(.int .i64 0),(.int .i64 0)],none⟩,⟨none,.store 2 (.tmp 8) (.tmp 31),none⟩]) ( .seq (.draw 0 [⟨0,0,0,
 ⟨some 32,.idxA (some 2) 1 (.tmp 8) (.const (.int .i64 0)),none⟩,none⟩,⟨1,0,1,⟨some 33,.load none (.tmp 32),none⟩,none⟩,⟨2,0,0,⟨some 34,.idxA (some 2) 1 (.tmp 8) (.const (.int .i64 1)),
 none⟩,none⟩,⟨3,0,4,⟨some 35,.load none (.tmp 34),none⟩,none⟩,⟨4,0,3,⟨some 4,.mv (.tmp 33),none⟩,none⟩,⟨5,0,31,⟨some 5,.mv (.tmp 35),none⟩,none⟩,⟨6,0,63,⟨some 6,.mv (.const
 (.int .i64 0)),none⟩,none⟩]) ( .ret)))))⟩
def f34 : IFn:=⟨13,[.cell 2 (some 4),.tmp 3],.seq (.region 2 [⟨some 1,.box 27 (.tmp 0),none⟩,⟨some 2,.alloc 44 [(.slice none 0 0),(.int .i64 0),(.int .i64 0),(.slice none 0 0)],none⟩,⟨some 3,.mv (.const
 (.int .i64 0)),none⟩]) ( .seq (.seq (.region 0 [⟨some 5,.load (some 4) (.tmp 1),none⟩,⟨some 6,.call (.func 24) [(.tmp 5)],none⟩,⟨some 4,.mv (.tmp 6),none⟩]) ( .seq (.region 0 [⟨some 7,.mv
 (.tmp 4),none⟩,⟨some 8,.bin .neq (.tmp 7) (.const (.int .i64 0)),none⟩]) ( .cond (.tmp 8) ( .seq (.region 0 [⟨some 9,.build [(.slice none 0 0),(.int .i64 0),(.int .i64 0),(.slice none 0 0)]
 [],none⟩,⟨some 10,.mv (.tmp 4),none⟩,⟨none,.store 4 (.tmp 2) (.tmp 9),none⟩,⟨some 3,.mv (.tmp 10),none⟩]) ( .ret)) ( .skip)))) ( .seq (.region 0 [⟨some 11,.load (some 4) (.tmp 1),none⟩,
 ⟨some 12,.call (.func 91) [(.tmp 11)],none⟩,⟨none,.store 4 (.tmp 2) (.tmp 12),none⟩,⟨some 3,.mv (.const (.int .i64 0)),none⟩]) ( .ret)))⟩
def f37 : IFn:=⟨106,[.cell 2 (some 1),.tmp 3],.seq (.region 2 [⟨some 1,.box 27 (.tmp 0),none⟩,⟨some 2,.alloc 50 [(.slice none 0 0)],none⟩,⟨some 3,.mv (.const (.int .i64 0)),none⟩]) ( .seq (.seq (.region 0
 [⟨some 20,.load (some 4) (.tmp 1),none⟩,⟨some 21,.call (.func 24) [(.tmp 20)],none⟩,⟨some 4,.mv (.tmp 21),none⟩]) ( .seq (.region 0 [⟨some 22,.mv (.tmp 4),none⟩,⟨some 23,.bin .neq (.tmp
 22) (.const (.int .i64 0)),none⟩]) ( .cond (.tmp 23) ( .seq (.region 0 [⟨some 24,.build [(.slice none 0 0)] [],none⟩,⟨some 25,.mv (.tmp 4),none⟩,⟨none,.store 1 (.tmp 2) (.tmp 24),none⟩,
 ⟨some 3,.mv (.tmp 25),none⟩]) ( .ret)) ( .skip)))) ( .seq (.region 0 [⟨some 26,.load (some 4) (.tmp 1),none⟩,⟨some 27,.call (.func 93) [(.tmp 26)],none⟩,⟨some 5,.mv (.tmp 27),none⟩]) ( .seq
 (.region 1 [⟨some 28,.mv (.tmp 5),none⟩,⟨some 29,.call (.func 94) [(.tmp 28)],none⟩,⟨some 6,.alloc 110 [(.int .i64 0),(.int .i64 0)],none⟩,⟨none,.store 2 (.tmp 6) (.tmp 29),none⟩]) ( .seq
 (.region 2 [⟨some 31,.mv (.tmp 5),none⟩,⟨some 32,.call (.func 95) [(.tmp 31)],none⟩,⟨some 30,.mv (.tmp 32),none⟩,⟨some 33,.extr (.tmp 30) 0,none⟩,⟨some 34,.extr (.tmp 30) 1,none⟩,⟨some
 7,.alloc 123 [(.int .i64 0),(.int .i64 0)],none⟩,⟨some 8,.alloc 110 [(.int .i64 0),(.int .i64 0)],none⟩,⟨none,.store 2 (.tmp 7) (.tmp 33),none⟩,⟨none,.store 2 (.tmp 8) (.tmp 34),none⟩])
 ( .seq (.region 2 [⟨some 35,.mkmap,none⟩,⟨some 36,.load (some 2) (.tmp 7),none⟩,⟨some 37,.load (some 2) (.tmp 8),none⟩,⟨none,.mset [(.int .i64),(.int .i64)] true (.tmp 35) (.tmp 36) (.tmp
 37),none⟩,⟨some 38,.mv (.tmp 35),none⟩,⟨some 9,.alloc 126 [(.map none)],none⟩,⟨none,.store 1 (.tmp 9) (.tmp 38),none⟩]) ( .seq (.region 1 [⟨some 10,.alloc 50 [(.slice none 0 0)],none⟩]) (
 .seq (.seq (.region 0 [⟨some 39,.mv (.tmp 5),none⟩,⟨some 40,.call (.func 96) [(.tmp 39)],none⟩,⟨some 41,.bin .add (.tmp 40) (.const (.int .i64 1)),none⟩,⟨some 42,.mv (.const (.int .i64 0)),
 none⟩]) ( .block 0 ( .loop ( .seq (.region 0 [⟨some 43,.bin .lss (.tmp 42) (.tmp 41),none⟩]) ( .seq (.cond (.tmp 43) ( .skip) ( .exit 0)) ( .seq (.block 1 ( .seq (.region 0 [⟨some 44,.mv (.tmp
 42),none⟩,⟨some 11,.mv (.tmp 44),none⟩]) ( .seq (.region 0 [⟨some 12,.mv (.const (.int .i64 (-1))),none⟩]) ( .block 2 ( .loop ( .seq (.seq (.region 0 [⟨some 45,.mv (.tmp 12),none⟩,⟨some 46,
 .fldA 2 (.tmp 1),none⟩,⟨some 47,.load none (.tmp 46),none⟩,⟨some 48,.ln (.tmp 47),none⟩,⟨some 49,.bin .lss (.tmp 45) (.tmp 48),none⟩]) ( .cond (.tmp 49) ( .skip) ( .exit 2))) ( .seq (.block
 3 ( .seq (.region 1 [⟨some 52,.mv (.tmp 11),none⟩,⟨some 53,.mv (.tmp 12),none⟩,⟨some 54,.build [(.int .i64 0),(.int .i64 0)] [(0,1,(.tmp 52)),(1,1,(.tmp 53))],none⟩,⟨some 13,.alloc
 123 [(.int .i64 0),(.int .i64 0)],none⟩,⟨none,.store 2 (.tmp 13) (.tmp 54),none⟩]) ( .seq (.region 1 [⟨some 56,.load none (.tmp 9),none⟩,⟨some 57,.load (some 2) (.tmp 13),none⟩,⟨some 58,
 .look [(.int .i64),(.int .i64)] true (.agg #[(.int .i64 0),(.int .i64 0)]) true (.tmp 56) (.tmp 57),none⟩,⟨some 55,.mv (.tmp 58),none⟩,⟨some 59,.extr (.tmp 55) 0,none⟩,⟨some 60,.extr (.tmp
 55) 1,none⟩,⟨some 14,.alloc 110 [(.int .i64 0),(.int .i64 0)],none⟩,⟨none,.store 2 (.tmp 14) (.tmp 59),none⟩,⟨some 15,.mv (.tmp 60),none⟩]) ( .seq (.seq (.region 0 [⟨some 61,.mv (.tmp
 15),none⟩,⟨some 62,.un .not (.tmp 61),none⟩]) ( .cond (.tmp 62) ( .exit 3) ( .skip))) ( .seq (.seq (.region 0 [⟨some 63,.load (some 2) (.tmp 14),none⟩,⟨some 64,.load (some 2) (.tmp 6),none⟩,
 ⟨some 65,.call (.func 97) [(.tmp 63),(.tmp 64)],none⟩]) ( .cond (.tmp 65) ( .region 2 [⟨some 66,.fldA 0 (.tmp 10),none⟩,⟨some 67,.load none (.tmp 66),none⟩,⟨some 68,.mv (.tmp 11),none⟩,
 ⟨some 69,.mv (.tmp 12),none⟩,⟨some 70,.idxA (some 2) 1 (.tmp 14) (.const (.int .i64 0)),none⟩,⟨some 71,.load none (.tmp 70),none⟩,⟨some 72,.idxA (some 2) 1 (.tmp 14) (.const (.int .i64 1)),
 none⟩,⟨some 73,.load none (.tmp 72),none⟩,⟨some 74,.build [(.int .i64 0),(.int .i64 0),(.int .i64 0),(.int .i64 0)] [(0,1,(.tmp 68)),(1,1,(.tmp 69)),(2,1,(.tmp 71)),(3,1,(.tmp
 73))],none⟩,⟨some 75,.bslice 131 4 [(.int .i64 0),(.int .i64 0),(.int .i64 0),(.int .i64 0)] 1 [(0,4,(.tmp 74))],none⟩,⟨some 76,.app 131 4 32 [(.int .i64 0),(.int .i64 0),(.int .i64 0),
 (.int .i64 0)] (.tmp 67) (.tmp 75),none⟩,⟨some 77,.fldA 0 (.tmp 10),none⟩,⟨none,.store 1 (.tmp 77) (.tmp 76),none⟩]) ( .skip))) ( .seq (.region 0 [⟨some 78,.mv (.tmp 5),none⟩,⟨some 79,
 .load (some 2) (.tmp 13),none⟩,⟨some 80,.call (.func 98) [(.tmp 78),(.tmp 79)],none⟩]) ( .block 4 ( .rangeF (.tmp 80) [81] (.region 1 [⟨some 16,.alloc 135 [(.int .i64 0),(.int .i64 0),(.int
 .i64 0),(.int .i64 0),(.int .i64 0)],none⟩,⟨none,.store 5 (.tmp 16) (.tmp 81),none⟩]) (.block 5 ( .seq (.region 1 [⟨some 82,.load (some 2) (.tmp 14),none⟩,⟨some 83,.fldA 3 (.tmp 16),none⟩,
 ⟨some 84,.load (some 2) (.tmp 83),none⟩,⟨some 85,.call (.func 99) [(.tmp 82),(.tmp 84)],none⟩,⟨some 17,.alloc 110 [(.int .i64 0),(.int .i64 0)],none⟩,⟨none,.store 2 (.tmp 17) (.tmp 85),
 none⟩]) ( .seq (.region 1 [⟨some 87,.load none (.tmp 9),none⟩,⟨some 88,.fldA 1 (.tmp 16),none⟩,⟨some 89,.load (some 2) (.tmp 88),none⟩,⟨some 90,.look [(.int .i64),(.int .i64)] true (.agg
 #[(.int .i64 0),(.int .i64 0)]) true (.tmp 87) (.tmp 89),none⟩,⟨some 86,.mv (.tmp 90),none⟩,⟨some 91,.extr (.tmp 86) 0,none⟩,⟨some 92,.extr (.tmp 86) 1,none⟩,⟨some 18,.alloc 110 [(.int
 .i64 0),(.int .i64 0)],none⟩,⟨none,.store 2 (.tmp 18) (.tmp 91),none⟩,⟨some 19,.mv (.tmp 92),none⟩]) ( .seq (.region 0 [⟨some 93,.mv (.tmp 19),none⟩,⟨some 94,.un .not (.tmp 93),none⟩,
 ⟨some 95,.mv (.tmp 94),none⟩,⟨some 96,.load (some 2) (.tmp 17),(some (95,false))⟩,⟨some 97,.load (some 2) (.tmp 18),(some (95,false))⟩,⟨some 98,.call (.func 97) [(.tmp 96),(.tmp 97)],
 (some (95,false))⟩,⟨some 99,.pick (.tmp 95) (.const (.bool true)) (.tmp 98),none⟩]) ( .cond (.tmp 99) ( .region 0 [⟨some 100,.load none (.tmp 9),none⟩,⟨some 101,.fldA 1 (.tmp 16),none⟩,
 ⟨some 102,.load (some 2) (.tmp 101),none⟩,⟨some 103,.load (some 2) (.tmp 17),none⟩,⟨none,.mset [(.int .i64),(.int .i64)] true (.tmp 100) (.tmp 102) (.tmp 103),none⟩]) ( .skip)))))))))))))) (
 .region 0 [⟨some 50,.mv (.tmp 12),none⟩,⟨some 51,.bin .add (.tmp 50) (.const (.int .i64 1)),none⟩,⟨some 12,.mv (.tmp 51),none⟩])))))))) ( .region 0 [⟨some 104,.bin .add (.tmp 42) (.const
 (.int .i64 1)),none⟩,⟨some 42,.mv (.tmp 104),none⟩]))))))) ( .seq (.region 0 [⟨some 105,.load (some 1) (.tmp 10),none⟩,⟨none,.store 1 (.tmp 2) (.tmp 105),none⟩,⟨some 3,.mv (.const (.int
 .i64 0)),none⟩]) ( .ret)))))))))⟩
def f40 : IFn:=⟨26,[.tmp 4],.seq (.region 0 [⟨some 4,.mv (.const (.bool false)),none⟩]) ( .seq (.seq (.region 0 [⟨some 6,.mv (.tmp 0),none⟩,⟨some 7,.ln (.tmp 6),none⟩,⟨some 8,.mv (.tmp 1),none⟩,⟨some 9,
 .ln (.tmp 8),none⟩,⟨some 10,.bin .neq (.tmp 7) (.tmp 9),none⟩]) ( .cond (.tmp 10) ( .seq (.region 0 [⟨some 4,.mv (.const (.bool false)),none⟩]) ( .ret)) ( .skip))) ( .seq (.seq (.region 0
 [⟨some 5,.mv (.const (.int .i64 0)),none⟩]) ( .block 0 ( .loop ( .seq (.seq (.region 0 [⟨some 11,.mv (.tmp 5),none⟩,⟨some 12,.mv (.tmp 0),none⟩,⟨some 13,.ln (.tmp 12),none⟩,⟨some 14,.bin
 .lss (.tmp 11) (.tmp 13),none⟩]) ( .cond (.tmp 14) ( .skip) ( .exit 0))) ( .seq (.block 1 ( .seq (.draw 0 [⟨0,0,0,⟨some 17,.mv (.tmp 0),none⟩,none⟩,⟨1,0,0,⟨some 18,.mv (.tmp 5),none⟩,
 none⟩,⟨2,0,3,⟨some 19,.idxA none 1 (.tmp 17) (.tmp 18),none⟩,none⟩,⟨3,0,7,⟨some 20,.load none (.tmp 19),none⟩,none⟩,⟨4,0,0,⟨some 21,.mv (.tmp 1),none⟩,none⟩,⟨5,0,0,⟨some 22,
 .mv (.tmp 5),none⟩,none⟩,⟨6,0,48,⟨some 23,.idxA none 1 (.tmp 21) (.tmp 22),none⟩,none⟩,⟨7,0,112,⟨some 24,.load none (.tmp 23),none⟩,none⟩,⟨8,0,255,⟨some 25,.bin .neq (.tmp 20)
 (.tmp 24),none⟩,none⟩]) ( .cond (.tmp 25) ( .seq (.region 0 [⟨some 4,.mv (.const (.bool false)),none⟩]) ( .ret)) ( .skip)))) ( .region 0 [⟨some 15,.mv (.tmp 5),none⟩,⟨some 16,.bin .add (.tmp
 15) (.const (.int .i64 1)),none⟩,⟨some 5,.mv (.tmp 16),none⟩])))))) ( .seq (.region 0 [⟨some 4,.mv (.const (.bool true)),none⟩]) ( .ret))))⟩
def f58 : IFn:=⟨17,[.tmp 4],.seq (.region 0 [⟨some 4,.mv (.const (.bool false)),none⟩]) ( .seq (.seq (.region 0 [⟨some 7,.mv (.tmp 0),none⟩,⟨some 8,.ln (.tmp 7),none⟩,⟨some 9,.mv (.const (.int .i64 0)),
 none⟩]) ( .block 0 ( .loop ( .seq (.region 0 [⟨some 10,.bin .lss (.tmp 9) (.tmp 8),none⟩]) ( .seq (.cond (.tmp 10) ( .skip) ( .exit 0)) ( .seq (.block 1 ( .seq (.region 0 [⟨some 11,.idxA none 1
 (.tmp 7) (.tmp 9),none⟩,⟨some 12,.load none (.tmp 11),none⟩,⟨some 6,.mv (.tmp 12),none⟩]) ( .seq (.region 0 [⟨some 13,.mv (.tmp 6),none⟩,⟨some 14,.mv (.tmp 1),none⟩,⟨some 15,.bin .eql
 (.tmp 13) (.tmp 14),none⟩]) ( .cond (.tmp 15) ( .seq (.region 0 [⟨some 4,.mv (.const (.bool true)),none⟩]) ( .ret)) ( .skip))))) ( .region 0 [⟨some 16,.bin .add (.tmp 9) (.const (.int .i64 1)),
 none⟩,⟨some 9,.mv (.tmp 16),none⟩]))))))) ( .seq (.region 0 [⟨some 4,.mv (.const (.bool false)),none⟩]) ( .ret)))⟩
def f59 : IFn:=⟨18,[.tmp 2,.tmp 3],.seq (.region 1 [⟨some 1,.box 27 (.tmp 0),none⟩,⟨some 2,.mv (.const (.int .i64 0)),none⟩,⟨some 3,.mv (.const (.int .i64 0)),none⟩]) ( .seq (.seq (.region 0 [⟨some 6,
 .load (some 4) (.tmp 1),none⟩,⟨some 7,.call (.func 24) [(.tmp 6)],none⟩,⟨some 4,.mv (.tmp 7),none⟩]) ( .seq (.region 0 [⟨some 8,.mv (.tmp 4),none⟩,⟨some 9,.bin .neq (.tmp 8) (.const (.int
 .i64 0)),none⟩]) ( .cond (.tmp 9) ( .seq (.region 0 [⟨some 10,.mv (.tmp 4),none⟩,⟨some 2,.mv (.const (.int .i64 0)),none⟩,⟨some 3,.mv (.tmp 10),none⟩]) ( .ret)) ( .skip)))) ( .seq (.region 1
 [⟨some 5,.alloc 3 [(.int .i64 0)],none⟩,⟨none,.store 1 (.tmp 5) (.const (.int .i64 0)),none⟩]) ( .seq (.seq (.region 0 [⟨some 11,.load (some 4) (.tmp 1),none⟩,⟨some 12,.call (.func 93)
 [(.tmp 11)],none⟩,⟨some 13,.call (.func 118) [(.tmp 12)],none⟩]) ( .block 0 ( .rangeF (.tmp 13) [14] (.skip) (.block 1 ( .region 0 [⟨some 15,.load none (.tmp 5),none⟩,⟨some 16,.bin .add (.tmp
 15) (.const (.int .i64 1)),none⟩,⟨none,.store 1 (.tmp 5) (.tmp 16),none⟩]))))) ( .seq (.region 0 [⟨some 17,.load none (.tmp 5),none⟩,⟨some 2,.mv (.tmp 17),none⟩,⟨some 3,.mv (.const (.int
 .i64 0)),none⟩]) ( .ret)))))⟩
def f66 : IFn:=⟨35,[.cell 6 none,.cell 7 none],.seq (.region 3 [⟨some 3,.box 24 (.tmp 0),none⟩,⟨some 6,.alloc 90 [(.slice none 0 0)],none⟩,⟨some 7,.alloc 29 [(.int .i64 0)],none⟩]) ( .seq (.region 0
 [⟨some 11,.mkfn (.func 127) [] [(.tmp 7),(.tmp 6)],none⟩,⟨none,.defer (.tmp 11) [],none⟩]) ( .seq (.region 0 [⟨none,.defer (.func 128) [(.tmp 7)],none⟩]) ( .seq (.region 0 [⟨some 12,.load
 (some 2) (.tmp 3),none⟩,⟨some 13,.mv (.tmp 1),none⟩,⟨some 14,.mv (.tmp 2),none⟩,⟨some 15,.call (.func 129) [(.tmp 12),(.tmp 13),(.tmp 14),(.func 130)],none⟩,⟨some 8,.mv (.tmp 15),
 none⟩]) ( .seq (.seq (.region 0 [⟨some 16,.mv (.tmp 2),none⟩,⟨some 17,.ln (.tmp 16),none⟩,⟨some 18,.mv (.const (.int .i64 0)),none⟩]) ( .block 0 ( .loop ( .seq (.region 0 [⟨some 19,.bin .lss
 (.tmp 18) (.tmp 17),none⟩]) ( .seq (.cond (.tmp 19) ( .skip) ( .exit 0)) ( .seq (.block 1 ( .seq (.region 1 [⟨some 20,.idxA none 4 (.tmp 16) (.tmp 18),none⟩,⟨some 21,.load (some 4) (.tmp 20),
 none⟩,⟨some 10,.alloc 89 [(.int .u8 0),(.int .i64 0),(.int .i64 0),(.slice none 0 0)],none⟩,⟨none,.store 4 (.tmp 10) (.tmp 21),none⟩]) ( .seq (.region 0 [⟨some 22,.mv (.tmp 8),none⟩,⟨some
 23,.load (some 4) (.tmp 10),none⟩,⟨some 24,.call (.func 131) [(.tmp 22),(.tmp 23)],none⟩]) ( .draw 2 [⟨0,0,0,⟨some 25,.load none (.tmp 6),none⟩,none⟩,⟨1,0,0,⟨some 26,.mv (.tmp 8),
 none⟩,none⟩,⟨2,0,2,⟨some 27,.nilc (.tmp 26),none⟩,none⟩,⟨3,0,6,⟨some 28,.fldA 2 (.tmp 27),none⟩,none⟩,⟨4,0,14,⟨some 29,.load none (.tmp 28),none⟩,none⟩,⟨5,0,30,⟨some 30,
 .call (.func 73) [(.tmp 29)],none⟩,none⟩,⟨6,0,62,⟨some 31,.bslice 25 1 [(.slice none 0 0)] 1 [(0,1,(.tmp 30))],none⟩,none⟩,⟨7,1,127,⟨some 32,.app 25 1 24 [(.slice none 0 0)] (.tmp 25)
 (.tmp 31),none⟩,none⟩,⟨8,2,255,⟨none,.store 1 (.tmp 6) (.tmp 32),none⟩,none⟩])))) ( .region 0 [⟨some 33,.bin .add (.tmp 18) (.const (.int .i64 1)),none⟩,⟨some 18,.mv (.tmp 33),
 none⟩]))))))) ( .seq (.region 0 [⟨some 34,.load none (.tmp 6),none⟩,⟨none,.store 1 (.tmp 6) (.tmp 34),none⟩,⟨none,.store 1 (.tmp 7) (.const (.int .i64 0)),none⟩]) ( .ret))))))⟩
def f67 : IFn:=⟨40,[.cell 8 none,.cell 9 none],.seq (.region 4 [⟨some 4,.box 24 (.tmp 0),none⟩,⟨some 7,.box 90 (.tmp 3),none⟩,⟨some 8,.alloc 4 [(.bool false)],none⟩,⟨some 9,.alloc 29 [(.int .i64 0)],
 none⟩]) ( .seq (.region 0 [⟨some 15,.mkfn (.func 132) [] [(.tmp 8),(.tmp 9)],none⟩,⟨none,.defer (.tmp 15) [],none⟩]) ( .seq (.region 0 [⟨none,.defer (.func 128) [(.tmp 9)],none⟩]) ( .seq
 (.region 1 [⟨some 10,.alloc 3 [(.int .i64 0)],none⟩,⟨none,.store 1 (.tmp 10) (.const (.int .i64 0)),none⟩]) ( .seq (.region 1 [⟨some 11,.alloc 4 [(.bool false)],none⟩,⟨none,.store 1 (.tmp
 11) (.const (.bool true)),none⟩]) ( .seq (.region 0 [⟨some 16,.load (some 2) (.tmp 4),none⟩,⟨some 17,.mv (.tmp 1),none⟩,⟨some 18,.mv (.tmp 2),none⟩,⟨some 19,.mkfn (.func 133) [] [(.tmp 7),
 (.tmp 10),(.tmp 11)],none⟩,⟨some 20,.call (.func 129) [(.tmp 16),(.tmp 17),(.tmp 18),(.tmp 19)],none⟩,⟨some 12,.mv (.tmp 20),none⟩]) ( .seq (.seq (.region 0 [⟨some 21,.load none (.tmp 7),
 none⟩,⟨some 22,.ln (.tmp 21),none⟩,⟨some 23,.mv (.tmp 2),none⟩,⟨some 24,.ln (.tmp 23),none⟩,⟨some 25,.bin .neq (.tmp 22) (.tmp 24),none⟩]) ( .cond (.tmp 25) ( .seq (.region 0 [⟨none,
 .store 1 (.tmp 8) (.const (.bool false)),none⟩,⟨none,.store 1 (.tmp 9) (.const (.int .i64 0)),none⟩]) ( .ret)) ( .skip))) ( .seq (.seq (.region 0 [⟨some 26,.mv (.tmp 2),none⟩,⟨some 27,.ln
 (.tmp 26),none⟩,⟨some 28,.mv (.const (.int .i64 0)),none⟩]) ( .block 0 ( .loop ( .seq (.region 0 [⟨some 29,.bin .lss (.tmp 28) (.tmp 27),none⟩]) ( .seq (.cond (.tmp 29) ( .skip) ( .exit 0)) (
 .seq (.block 1 ( .seq (.region 1 [⟨some 30,.mv (.tmp 28),none⟩,⟨some 31,.idxA none 4 (.tmp 26) (.tmp 28),none⟩,⟨some 32,.load (some 4) (.tmp 31),none⟩,⟨some 14,.alloc 89 [(.int .u8 0),
 (.int .i64 0),(.int .i64 0),(.slice none 0 0)],none⟩,⟨some 13,.mv (.tmp 30),none⟩,⟨none,.store 4 (.tmp 14) (.tmp 32),none⟩]) ( .seq (.region 0 [⟨some 33,.mv (.tmp 13),none⟩,⟨none,.store
 1 (.tmp 10) (.tmp 33),none⟩]) ( .seq (.region 0 [⟨some 34,.mv (.tmp 12),none⟩,⟨some 35,.load (some 4) (.tmp 14),none⟩,⟨some 36,.call (.func 131) [(.tmp 34),(.tmp 35)],none⟩]) ( .seq
 (.region 0 [⟨some 37,.load none (.tmp 11),none⟩,⟨some 38,.un .not (.tmp 37),none⟩]) ( .cond (.tmp 38) ( .seq (.region 0 [⟨none,.store 1 (.tmp 8) (.const (.bool false)),none⟩,⟨none,.store 1
 (.tmp 9) (.const (.int .i64 0)),none⟩]) ( .ret)) ( .skip))))))) ( .region 0 [⟨some 39,.bin .add (.tmp 28) (.const (.int .i64 1)),none⟩,⟨some 28,.mv (.tmp 39),none⟩]))))))) ( .seq (.region 0
 [⟨none,.store 1 (.tmp 8) (.const (.bool true)),none⟩,⟨none,.store 1 (.tmp 9) (.const (.int .i64 0)),none⟩]) ( .ret)))))))))⟩
def f68 : IFn:=⟨5,[.cell 0 (some 2)],.seq (.region 1 [⟨some 0,.alloc 24 [(.int .i64 0),(.slice none 0 0)],none⟩]) ( .seq (.region 1 [⟨some 1,.build [(.int .i64 0),(.int .i64 0),(.int .i64 0),(.int .i64 0)]
 [(0,1,(.const (.int .i64 0))),(1,1,(.const (.int .i64 1))),(3,1,(.const (.int .i64 5)))],none⟩,⟨some 2,.build [(.int .i64 0),(.int .i64 0),(.int .i64 0),(.int .i64 0)] [(0,1,(.const
 (.int .i64 2))),(1,1,(.const (.int .i64 0))),(3,1,(.const (.int .i64 2)))],none⟩,⟨some 3,.bslice 181 4 (reps 8 (.int .i64 0)) 2 [(0,4,(.tmp 1)),(4,4,(.tmp 2))],none⟩,⟨some 4,.build
 [(.int .i64 0),(.slice none 0 0)] [(0,1,(.const (.int .i64 3))),(1,1,(.tmp 3))],none⟩,⟨none,.store 2 (.tmp 0) (.tmp 4),none⟩]) ( .ret))⟩
def f69 : IFn:=⟨68,[.tmp 2],.seq (.region 1 [⟨some 1,.box 24 (.tmp 0),none⟩,⟨some 2,.mv (.const (.int .i64 0)),none⟩]) ( .seq (.seq (.region 0 [⟨some 5,.fldA 0 (.tmp 1),none⟩,⟨some 6,.load none (.tmp 5),
 none⟩,⟨some 7,.bin .gtr (.tmp 6) (.const (.int .i64 24)),none⟩]) ( .cond (.tmp 7) ( .seq (.region 0 [⟨some 2,.mv (.const (.int .i64 2)),none⟩]) ( .ret)) ( .skip))) ( .seq (.seq (.region 0 [⟨some
 8,.fldA 0 (.tmp 1),none⟩,⟨some 9,.load none (.tmp 8),none⟩,⟨some 10,.bin .lss (.tmp 9) (.const (.int .i64 0)),none⟩]) ( .cond (.tmp 10) ( .seq (.region 0 [⟨some 2,.mv (.const (.int .i64 1)),
 none⟩]) ( .ret)) ( .skip))) ( .seq (.seq (.region 0 [⟨some 11,.fldA 1 (.tmp 1),none⟩,⟨some 12,.load none (.tmp 11),none⟩,⟨some 13,.ln (.tmp 12),none⟩,⟨some 14,.mv (.const (.int .i64 0)),
 none⟩]) ( .block 0 ( .loop ( .seq (.region 0 [⟨some 15,.bin .lss (.tmp 14) (.tmp 13),none⟩]) ( .seq (.cond (.tmp 15) ( .skip) ( .exit 0)) ( .seq (.block 1 ( .seq (.region 1 [⟨some 16,.mv (.tmp
 14),none⟩,⟨some 17,.idxA none 4 (.tmp 12) (.tmp 14),none⟩,⟨some 18,.load (some 4) (.tmp 17),none⟩,⟨some 4,.alloc 181 [(.int .i64 0),(.int .i64 0),(.int .i64 0),(.int .i64 0)],none⟩,
 ⟨some 3,.mv (.tmp 16),none⟩,⟨none,.store 4 (.tmp 4) (.tmp 18),none⟩]) ( .seq (.seq (.region 0 [⟨some 19,.fldA 0 (.tmp 4),none⟩,⟨some 20,.load none (.tmp 19),none⟩,⟨some 21,.fldA 0 (.tmp
 1),none⟩,⟨some 22,.load none (.tmp 21),none⟩,⟨some 23,.bin .sub (.tmp 22) (.const (.int .i64 1)),none⟩,⟨some 24,.call (.func 134) [(.tmp 20),(.const (.int .i64 0)),(.tmp 23)],none⟩,⟨some
 25,.un .not (.tmp 24),none⟩,⟨some 26,.mv (.tmp 25),none⟩,⟨some 27,.fldA 1 (.tmp 4),(some (26,false))⟩,⟨some 28,.load none (.tmp 27),(some (26,false))⟩,⟨some 29,.fldA 0 (.tmp 1),(some
 (26,false))⟩,⟨some 30,.load none (.tmp 29),(some (26,false))⟩,⟨some 31,.bin .sub (.tmp 30) (.const (.int .i64 1)),(some (26,false))⟩,⟨some 32,.call (.func 134) [(.tmp 28),(.const (.int
 .i64 0)),(.tmp 31)],(some (26,false))⟩,⟨some 33,.un .not (.tmp 32),(some (26,false))⟩,⟨some 34,.pick (.tmp 26) (.const (.bool true)) (.tmp 33),none⟩,⟨some 35,.mv (.tmp 34),none⟩,⟨some
 36,.fldA 0 (.tmp 4),(some (35,false))⟩,⟨some 37,.load none (.tmp 36),(some (35,false))⟩,⟨some 38,.fldA 1 (.tmp 4),(some (35,false))⟩,⟨some 39,.load none (.tmp 38),(some (35,false))⟩,
 ⟨some 40,.bin .eql (.tmp 37) (.tmp 39),(some (35,false))⟩,⟨some 41,.pick (.tmp 35) (.const (.bool true)) (.tmp 40),none⟩,⟨some 42,.mv (.tmp 41),none⟩,⟨some 43,.fldA 2 (.tmp 4),(some (42,
 false))⟩,⟨some 44,.load none (.tmp 43),(some (42,false))⟩,⟨some 45,.call (.func 134) [(.tmp 44),(.const (.int .i64 0)),(.const (.int .i64 23))],(some (42,false))⟩,⟨some 46,.un .not (.tmp
 45),(some (42,false))⟩,⟨some 47,.pick (.tmp 42) (.const (.bool true)) (.tmp 46),none⟩,⟨some 48,.mv (.tmp 47),none⟩,⟨some 49,.fldA 3 (.tmp 4),(some (48,false))⟩,⟨some 50,.load none (.tmp
 49),(some (48,false))⟩,⟨some 51,.call (.func 134) [(.tmp 50),(.const (.int .i64 1)),(.const (.int .i64 1000))],(some (48,false))⟩,⟨some 52,.un .not (.tmp 51),(some (48,false))⟩,⟨some 53,
 .pick (.tmp 48) (.const (.bool true)) (.tmp 52),none⟩]) ( .cond (.tmp 53) ( .seq (.region 0 [⟨some 2,.mv (.const (.int .i64 1)),none⟩]) ( .ret)) ( .skip))) ( .seq (.draw 0 [⟨0,0,0,⟨some 54,.mv
 (.tmp 3),none⟩,none⟩,⟨1,0,1,⟨some 55,.bin .gtr (.tmp 54) (.const (.int .i64 0)),none⟩,none⟩,⟨2,0,3,⟨some 56,.mv (.tmp 55),none⟩,none⟩,⟨3,0,7,⟨some 57,.fldA 1 (.tmp 1),(some (56,
 true))⟩,none⟩,⟨4,0,15,⟨some 58,.load none (.tmp 57),(some (56,true))⟩,none⟩,⟨5,0,7,⟨some 59,.mv (.tmp 3),(some (56,true))⟩,none⟩,⟨6,0,39,⟨some 60,.bin .sub (.tmp 59) (.const
 (.int .i64 1)),(some (56,true))⟩,none⟩,⟨7,0,127,⟨some 61,.idxA none 4 (.tmp 58) (.tmp 60),(some (56,true))⟩,none⟩,⟨8,0,255,⟨some 62,.load (some 4) (.tmp 61),(some (56,true))⟩,
 none⟩,⟨9,0,7,⟨some 63,.load (some 4) (.tmp 4),(some (56,true))⟩,none⟩,⟨10,0,1023,⟨some 64,.call (.func 135) [(.tmp 62),(.tmp 63)],(some (56,true))⟩,none⟩,⟨11,0,2047,⟨some 65,
 .bin .geq (.tmp 64) (.const (.int .i64 0)),(some (56,true))⟩,none⟩,⟨12,0,4095,⟨some 66,.pick (.tmp 56) (.tmp 65) (.const (.bool false)),none⟩,none⟩]) ( .cond (.tmp 66) ( .seq (.region 0
 [⟨some 2,.mv (.const (.int .i64 1)),none⟩]) ( .ret)) ( .skip)))))) ( .region 0 [⟨some 67,.bin .add (.tmp 14) (.const (.int .i64 1)),none⟩,⟨some 14,.mv (.tmp 67),none⟩]))))))) ( .seq (.region 0
 [⟨some 2,.mv (.const (.int .i64 0)),none⟩]) ( .ret)))))⟩
def f72 : IFn:=⟨26,[.tmp 2],.seq (.region 0 [⟨some 2,.mv (.const (.int .i64 0)),none⟩]) ( .seq (.seq (.region 0 [⟨some 7,.mv (.tmp 0),none⟩,⟨some 8,.ln (.tmp 7),none⟩,⟨some 9,.mv (.const (.int .i64 0)),
 none⟩]) ( .block 0 ( .loop ( .seq (.region 0 [⟨some 10,.bin .lss (.tmp 9) (.tmp 8),none⟩]) ( .seq (.cond (.tmp 10) ( .skip) ( .exit 0)) ( .seq (.block 1 ( .seq (.region 0 [⟨some 11,.idxA none 1
 (.tmp 7) (.tmp 9),none⟩,⟨some 12,.load none (.tmp 11),none⟩,⟨some 4,.mv (.tmp 12),none⟩]) ( .seq (.region 0 [⟨some 13,.mv (.tmp 4),none⟩,⟨some 14,.ln (.tmp 13),none⟩,⟨some 15,.bin .gtr
 (.tmp 14) (.const (.int .i64 200)),none⟩]) ( .cond (.tmp 15) ( .seq (.region 0 [⟨some 2,.mv (.const (.int .i64 2)),none⟩]) ( .ret)) ( .skip))))) ( .region 0 [⟨some 16,.bin .add (.tmp 9) (.const
 (.int .i64 1)),none⟩,⟨some 9,.mv (.tmp 16),none⟩]))))))) ( .seq (.seq (.region 0 [⟨some 17,.mv (.tmp 0),none⟩,⟨some 18,.ln (.tmp 17),none⟩,⟨some 19,.mv (.const (.int .i64 0)),none⟩]) (
 .block 2 ( .loop ( .seq (.region 0 [⟨some 20,.bin .lss (.tmp 19) (.tmp 18),none⟩]) ( .seq (.cond (.tmp 20) ( .skip) ( .exit 2)) ( .seq (.block 3 ( .seq (.region 0 [⟨some 21,.idxA none 1 (.tmp 17)
 (.tmp 19),none⟩,⟨some 22,.load none (.tmp 21),none⟩,⟨some 6,.mv (.tmp 22),none⟩]) ( .seq (.region 0 [⟨some 23,.mv (.tmp 6),none⟩,⟨some 24,.call (.func 115) [(.tmp 23)],none⟩]) ( .cond
 (.tmp 24) ( .seq (.region 0 [⟨some 2,.mv (.const (.int .i64 6)),none⟩]) ( .ret)) ( .skip))))) ( .region 0 [⟨some 25,.bin .add (.tmp 19) (.const (.int .i64 1)),none⟩,⟨some 19,.mv (.tmp 25),
 none⟩]))))))) ( .seq (.region 0 [⟨some 2,.mv (.const (.int .i64 0)),none⟩]) ( .ret))))⟩
def f73 : IFn:=⟨8,[.tmp 2],.seq (.region 0 [⟨some 2,.mv (.const (.slice none 0 0)),none⟩]) ( .seq (.seq (.region 0 [⟨some 3,.mv (.tmp 0),none⟩,⟨some 4,.eqn .slice false (.tmp 3) (.const (.slice none 0 0)),
 none⟩]) ( .cond (.tmp 4) ( .seq (.region 0 [⟨some 2,.mv (.const (.slice none 0 0)),none⟩]) ( .ret)) ( .skip))) ( .seq (.region 2 [⟨some 5,.bslice 3 1 [] 0 [],none⟩,⟨some 6,.mv (.tmp 0),none⟩,
 ⟨some 7,.app 3 1 8 [(.int .i64 0)] (.tmp 5) (.tmp 6),none⟩,⟨some 2,.mv (.tmp 7),none⟩]) ( .ret)))⟩
def f74 : IFn:=⟨9,[.tmp 4],.seq (.region 0 [⟨some 4,.mv (.const (.bool false)),none⟩]) ( .seq (.region 0 [⟨some 5,.mv (.tmp 0),none⟩,⟨some 6,.mv (.tmp 1),none⟩,⟨some 7,.call (.func 75) [(.tmp 5),(.tmp
 6)],none⟩,⟨some 8,.bin .geq (.tmp 7) (.const (.int .i64 0)),none⟩,⟨some 4,.mv (.tmp 8),none⟩]) ( .ret))⟩
def f75 : IFn:=⟨19,[.tmp 4],.seq (.region 0 [⟨some 4,.mv (.const (.int .i64 0)),none⟩]) ( .seq (.seq (.region 0 [⟨some 6,.mv (.tmp 0),none⟩,⟨some 7,.ln (.tmp 6),none⟩,⟨some 8,.mv (.const (.int .i64 0)),
 none⟩]) ( .block 0 ( .loop ( .seq (.region 0 [⟨some 9,.bin .lss (.tmp 8) (.tmp 7),none⟩]) ( .seq (.cond (.tmp 9) ( .skip) ( .exit 0)) ( .seq (.block 1 ( .seq (.region 0 [⟨some 10,.mv (.tmp 8),
 none⟩,⟨some 5,.mv (.tmp 10),none⟩]) ( .seq (.region 0 [⟨some 11,.mv (.tmp 1),none⟩,⟨some 12,.mv (.tmp 0),none⟩,⟨some 13,.mv (.tmp 5),none⟩,⟨some 14,.idxA none 1 (.tmp 12) (.tmp 13),
 none⟩,⟨some 15,.load none (.tmp 14),none⟩,⟨some 16,.bin .eql (.tmp 11) (.tmp 15),none⟩]) ( .cond (.tmp 16) ( .seq (.region 0 [⟨some 17,.mv (.tmp 5),none⟩,⟨some 4,.mv (.tmp 17),none⟩]) (
 .ret)) ( .skip))))) ( .region 0 [⟨some 18,.bin .add (.tmp 8) (.const (.int .i64 1)),none⟩,⟨some 8,.mv (.tmp 18),none⟩]))))))) ( .seq (.region 0 [⟨some 4,.mv (.const (.int .i64 (-1))),none⟩]) (
 .ret)))⟩
def f76 : IFn:=⟨33,[.tmp 6],.seq (.region 0 [⟨some 6,.mv (.const (.slice none 0 0)),none⟩]) ( .seq (.region 0 [⟨some 8,.mv (.tmp 0),none⟩,⟨some 9,.mv (.tmp 1),none⟩,⟨some 10,.mv (.tmp 2),none⟩,⟨some 11,
 .mv (.tmp 0),none⟩,⟨some 12,.ln (.tmp 11),none⟩,⟨some 13,.slc 3 1 (.tmp 8) (some (.tmp 9)) (some (.tmp 10)) (some (.tmp 12)),none⟩]) ( .seq (.seq (.region 0 [⟨some 14,.mv (.tmp 1),none⟩,
 ⟨some 15,.mv (.tmp 2),none⟩,⟨some 16,.bin .eql (.tmp 14) (.tmp 15),none⟩]) ( .cond (.tmp 16) ( .seq (.region 0 [⟨some 17,.mv (.tmp 0),none⟩,⟨some 6,.mv (.tmp 17),none⟩]) ( .ret)) ( .skip)))
 ( .seq (.region 0 [⟨some 18,.mv (.tmp 0),none⟩,⟨some 19,.ln (.tmp 18),none⟩,⟨some 7,.mv (.tmp 19),none⟩]) ( .seq (.draw 1 [⟨0,0,0,⟨some 20,.mv (.tmp 0),none⟩,none⟩,⟨1,0,0,⟨some 21,
 .mv (.tmp 1),none⟩,none⟩,⟨2,0,3,⟨some 22,.slc 3 1 (.tmp 20) none (some (.tmp 21)) none,none⟩,none⟩,⟨3,0,0,⟨some 23,.mv (.tmp 0),none⟩,none⟩,⟨4,0,0,⟨some 24,.mv (.tmp 2),none⟩,
 none⟩,⟨5,0,24,⟨some 25,.slc 3 1 (.tmp 23) (some (.tmp 24)) none none,none⟩,none⟩,⟨6,0,63,⟨some 26,.app 3 1 8 [(.int .i64 0)] (.tmp 22) (.tmp 25),none⟩,none⟩,⟨7,1,127,⟨some 0,.mv
 (.tmp 26),none⟩,none⟩]) ( .seq (.region 0 [⟨some 27,.mv (.tmp 0),none⟩,⟨some 28,.mv (.tmp 0),none⟩,⟨some 29,.ln (.tmp 28),none⟩,⟨some 30,.mv (.tmp 7),none⟩,⟨some 31,.slc 3 1 (.tmp 27)
 (some (.tmp 29)) (some (.tmp 30)) none,none⟩,⟨none,.clrs [(.int .i64 0)] (.tmp 31),none⟩]) ( .seq (.region 0 [⟨some 32,.mv (.tmp 0),none⟩,⟨some 6,.mv (.tmp 32),none⟩]) ( .ret)))))))⟩
def f77 : IFn:=⟨105,[.tmp 4],.seq (.region 1 [⟨some 2,.box 25 (.tmp 0),none⟩,⟨some 4,.mv (.const (.slice none 0 0)),none⟩]) ( .seq (.region 2 [⟨some 18,.mkmap,none⟩,⟨some 5,.alloc 148 [(.map none)],
 none⟩,⟨none,.store 1 (.tmp 5) (.tmp 18),none⟩]) ( .seq (.seq (.region 0 [⟨some 19,.mv (.tmp 1),none⟩,⟨some 20,.ln (.tmp 19),none⟩,⟨some 21,.mv (.const (.int .i64 0)),none⟩]) ( .block 0 (
 .loop ( .seq (.region 0 [⟨some 22,.bin .lss (.tmp 21) (.tmp 20),none⟩]) ( .seq (.cond (.tmp 22) ( .skip) ( .exit 0)) ( .seq (.block 1 ( .seq (.region 0 [⟨some 23,.mv (.tmp 21),none⟩,⟨some 24,
 .idxA none 1 (.tmp 19) (.tmp 21),none⟩,⟨some 25,.load none (.tmp 24),none⟩,⟨some 6,.mv (.tmp 23),none⟩,⟨some 7,.mv (.tmp 25),none⟩]) ( .region 0 [⟨some 26,.load none (.tmp 5),none⟩,⟨some
 27,.mv (.tmp 7),none⟩,⟨some 28,.mv (.tmp 6),none⟩,⟨none,.mset [(.int .i64)] false (.tmp 26) (.tmp 27) (.tmp 28),none⟩]))) ( .region 0 [⟨some 29,.bin .add (.tmp 21) (.const (.int .i64 1)),
 none⟩,⟨some 21,.mv (.tmp 29),none⟩]))))))) ( .seq (.region 2 [⟨some 30,.load none (.tmp 2),none⟩,⟨some 31,.ln (.tmp 30),none⟩,⟨some 32,.mksl 3 1 8 [(.int .i64 0)] (.tmp 31) (.tmp 31),
 none⟩,⟨some 8,.alloc 25 [(.slice none 0 0)],none⟩,⟨none,.store 1 (.tmp 8) (.tmp 32),none⟩]) ( .seq (.seq (.region 0 [⟨some 33,.load none (.tmp 2),none⟩,⟨some 34,.ln (.tmp 33),none⟩,⟨some
 35,.bin .sub (.tmp 34) (.const (.int .i64 1)),none⟩,⟨some 9,.mv (.tmp 35),none⟩]) ( .block 2 ( .loop ( .seq (.seq (.region 0 [⟨some 36,.mv (.tmp 9),none⟩,⟨some 37,.bin .geq (.tmp 36) (.const
 (.int .i64 0)),none⟩]) ( .cond (.tmp 37) ( .skip) ( .exit 2))) ( .seq (.block 3 ( .seq (.draw 0 [⟨0,0,0,⟨some 41,.load none (.tmp 5),none⟩,none⟩,⟨1,0,0,⟨some 42,.load none (.tmp 2),
 none⟩,none⟩,⟨2,0,0,⟨some 43,.mv (.tmp 9),none⟩,none⟩,⟨3,0,6,⟨some 44,.idxA none 1 (.tmp 42) (.tmp 43),none⟩,none⟩,⟨4,0,14,⟨some 45,.load none (.tmp 44),none⟩,none⟩,⟨5,0,31,
 ⟨some 46,.look [(.int .i64)] false (.int .i64 0) true (.tmp 41) (.tmp 45),none⟩,none⟩,⟨6,0,63,⟨some 40,.mv (.tmp 46),none⟩,none⟩,⟨7,0,127,⟨some 47,.extr (.tmp 40) 0,none⟩,none⟩,⟨8,
 0,127,⟨some 48,.extr (.tmp 40) 1,none⟩,none⟩,⟨9,0,255,⟨some 10,.mv (.tmp 47),none⟩,none⟩,⟨10,0,1023,⟨some 11,.mv (.tmp 48),none⟩,none⟩]) ( .seq (.seq (.region 0 [⟨some 49,.mv
 (.tmp 11),none⟩,⟨some 50,.un .not (.tmp 49),none⟩]) ( .cond (.tmp 50) ( .exit 3) ( .skip))) ( .seq (.region 0 [⟨some 51,.load none (.tmp 8),none⟩,⟨some 52,.mv (.tmp 9),none⟩,⟨some 53,.idxA
 none 1 (.tmp 51) (.tmp 52),none⟩,⟨none,.store 1 (.tmp 53) (.const (.int .i64 1)),none⟩]) ( .seq (.region 0 [⟨some 54,.mv (.tmp 9),none⟩,⟨some 55,.bin .add (.tmp 54) (.const (.int .i64 1)),
 none⟩,⟨some 12,.mv (.tmp 55),none⟩]) ( .block 4 ( .loop ( .seq (.seq (.region 0 [⟨some 56,.mv (.tmp 12),none⟩,⟨some 57,.load none (.tmp 2),none⟩,⟨some 58,.ln (.tmp 57),none⟩,⟨some 59,
 .bin .lss (.tmp 56) (.tmp 58),none⟩]) ( .cond (.tmp 59) ( .skip) ( .exit 4))) ( .seq (.block 5 ( .seq (.draw 0 [⟨0,0,0,⟨some 62,.load none (.tmp 8),none⟩,none⟩,⟨1,0,0,⟨some 63,.mv (.tmp
 12),none⟩,none⟩,⟨2,0,3,⟨some 64,.idxA none 1 (.tmp 62) (.tmp 63),none⟩,none⟩,⟨3,0,7,⟨some 65,.load none (.tmp 64),none⟩,none⟩,⟨4,0,15,⟨some 66,.bin .gtr (.tmp 65) (.const (.int
 .i64 0)),none⟩,none⟩,⟨5,0,31,⟨some 67,.mv (.tmp 66),none⟩,none⟩,⟨6,0,63,⟨some 68,.load none (.tmp 5),(some (67,true))⟩,none⟩,⟨7,0,63,⟨some 69,.load none (.tmp 2),(some (67,
 true))⟩,none⟩,⟨8,0,63,⟨some 70,.mv (.tmp 12),(some (67,true))⟩,none⟩,⟨9,0,447,⟨some 71,.idxA none 1 (.tmp 69) (.tmp 70),(some (67,true))⟩,none⟩,⟨10,0,959,⟨some 72,.load none
 (.tmp 71),(some (67,true))⟩,none⟩,⟨11,0,2047,⟨some 73,.look [(.int .i64)] false (.int .i64 0) false (.tmp 68) (.tmp 72),(some (67,true))⟩,none⟩,⟨12,0,63,⟨some 74,.mv (.tmp 10),(some
 (67,true))⟩,none⟩,⟨13,0,8191,⟨some 75,.bin .gtr (.tmp 73) (.tmp 74),(some (67,true))⟩,none⟩,⟨14,0,16383,⟨some 76,.pick (.tmp 67) (.tmp 75) (.const (.bool false)),none⟩,none⟩]) (
 .cond (.tmp 76) ( .draw 0 [⟨0,0,0,⟨some 77,.load none (.tmp 8),none⟩,none⟩,⟨1,0,0,⟨some 78,.mv (.tmp 9),none⟩,none⟩,⟨2,0,0,⟨some 79,.load none (.tmp 8),none⟩,none⟩,⟨3,0,0,
 ⟨some 80,.mv (.tmp 9),none⟩,none⟩,⟨4,0,12,⟨some 81,.idxA none 1 (.tmp 79) (.tmp 80),none⟩,none⟩,⟨5,0,28,⟨some 82,.load none (.tmp 81),none⟩,none⟩,⟨6,0,0,⟨some 83,.load none
 (.tmp 8),none⟩,none⟩,⟨7,0,0,⟨some 84,.mv (.tmp 12),none⟩,none⟩,⟨8,0,192,⟨some 85,.idxA none 1 (.tmp 83) (.tmp 84),none⟩,none⟩,⟨9,0,448,⟨some 86,.load none (.tmp 85),none⟩,
 none⟩,⟨10,0,960,⟨some 87,.bin .add (.tmp 86) (.const (.int .i64 1)),none⟩,none⟩,⟨11,0,2044,⟨some 88,.maxb [(.tmp 82),(.tmp 87)],none⟩,none⟩,⟨12,0,4095,⟨some 89,.idxA none 1 (.tmp
 77) (.tmp 78),none⟩,none⟩,⟨13,0,8191,⟨none,.store 1 (.tmp 89) (.tmp 88),none⟩,none⟩]) ( .skip)))) ( .region 0 [⟨some 60,.mv (.tmp 12),none⟩,⟨some 61,.bin .add (.tmp 60) (.const (.int
 .i64 1)),none⟩,⟨some 12,.mv (.tmp 61),none⟩])))))))))) ( .region 0 [⟨some 38,.mv (.tmp 9),none⟩,⟨some 39,.bin .sub (.tmp 38) (.const (.int .i64 1)),none⟩,⟨some 9,.mv (.tmp 39),
 none⟩])))))) ( .seq (.region 0 [⟨some 13,.mv (.const (.int .i64 0)),none⟩]) ( .seq (.seq (.region 0 [⟨some 90,.load none (.tmp 8),none⟩,⟨some 91,.ln (.tmp 90),none⟩,⟨some 92,.mv (.const
 (.int .i64 0)),none⟩]) ( .block 6 ( .loop ( .seq (.region 0 [⟨some 93,.bin .lss (.tmp 92) (.tmp 91),none⟩]) ( .seq (.cond (.tmp 93) ( .skip) ( .exit 6)) ( .seq (.block 7 ( .seq (.region 0 [⟨some
 94,.idxA none 1 (.tmp 90) (.tmp 92),none⟩,⟨some 95,.load none (.tmp 94),none⟩,⟨some 15,.mv (.tmp 95),none⟩]) ( .region 0 [⟨some 96,.mv (.tmp 13),none⟩,⟨some 97,.mv (.tmp 15),none⟩,⟨some
 98,.maxb [(.tmp 96),(.tmp 97)],none⟩,⟨some 13,.mv (.tmp 98),none⟩]))) ( .region 0 [⟨some 99,.bin .add (.tmp 92) (.const (.int .i64 1)),none⟩,⟨some 92,.mv (.tmp 99),none⟩]))))))) ( .seq
 (.region 1 [⟨some 16,.alloc 25 [(.slice none 0 0)],none⟩]) ( .seq (.region 1 [⟨some 17,.alloc 185 [.nilFunc],none⟩]) ( .seq (.region 0 [⟨some 100,.mkfn (.func 136) [] [(.tmp 2),(.tmp 8),(.tmp
 5),(.tmp 16),(.tmp 17)],none⟩,⟨none,.store 1 (.tmp 17) (.tmp 100),none⟩]) ( .seq (.region 0 [⟨some 101,.load none (.tmp 17),none⟩,⟨some 102,.mv (.tmp 13),none⟩,⟨some 103,.call (.tmp 101)
 [(.const (.int .i64 0)),(.const (.int .i64 (-1))),(.tmp 102)],none⟩]) ( .seq (.region 0 [⟨some 104,.load none (.tmp 16),none⟩,⟨some 4,.mv (.tmp 104),none⟩]) ( .ret))))))))))))⟩
def f84 : IFn:=⟨37,[.tmp 4],.seq (.region 0 [⟨some 4,.mv (.const (.int .i64 0)),none⟩]) ( .seq (.seq (.region 0 [⟨some 8,.mv (.tmp 1),none⟩,⟨some 9,.ln (.tmp 8),none⟩,⟨some 10,.mv (.tmp 0),none⟩,⟨some
 11,.bin .neq (.tmp 9) (.tmp 10),none⟩]) ( .cond (.tmp 11) ( .seq (.region 0 [⟨some 4,.mv (.const (.int .i64 1)),none⟩]) ( .ret)) ( .skip))) ( .seq (.region 1 [⟨some 12,.mv (.tmp 0),none⟩,⟨some
 13,.mksl 4 1 1 [(.bool false)] (.tmp 12) (.tmp 12),none⟩,⟨some 5,.mv (.tmp 13),none⟩]) ( .seq (.seq (.region 0 [⟨some 14,.mv (.tmp 1),none⟩,⟨some 15,.ln (.tmp 14),none⟩,⟨some 16,.mv
 (.const (.int .i64 0)),none⟩]) ( .block 0 ( .loop ( .seq (.region 0 [⟨some 17,.bin .lss (.tmp 16) (.tmp 15),none⟩]) ( .seq (.cond (.tmp 17) ( .skip) ( .exit 0)) ( .seq (.block 1 ( .seq (.region 0
 [⟨some 18,.idxA none 1 (.tmp 14) (.tmp 16),none⟩,⟨some 19,.load none (.tmp 18),none⟩,⟨some 7,.mv (.tmp 19),none⟩]) ( .seq (.seq (.region 0 [⟨some 20,.mv (.tmp 7),none⟩,⟨some 21,.bin .lss
 (.tmp 20) (.const (.int .i64 0)),none⟩,⟨some 22,.mv (.tmp 21),none⟩,⟨some 23,.mv (.tmp 7),(some (22,false))⟩,⟨some 24,.mv (.tmp 0),(some (22,false))⟩,⟨some 25,.bin .geq (.tmp 23) (.tmp
 24),(some (22,false))⟩,⟨some 26,.pick (.tmp 22) (.const (.bool true)) (.tmp 25),none⟩,⟨some 27,.mv (.tmp 26),none⟩,⟨some 28,.mv (.tmp 5),(some (27,false))⟩,⟨some 29,.mv (.tmp 7),(some
 (27,false))⟩,⟨some 30,.idxA none 1 (.tmp 28) (.tmp 29),(some (27,false))⟩,⟨some 31,.load none (.tmp 30),(some (27,false))⟩,⟨some 32,.pick (.tmp 27) (.const (.bool true)) (.tmp 31),none⟩])
 ( .cond (.tmp 32) ( .seq (.region 0 [⟨some 4,.mv (.const (.int .i64 1)),none⟩]) ( .ret)) ( .skip))) ( .region 0 [⟨some 33,.mv (.tmp 5),none⟩,⟨some 34,.mv (.tmp 7),none⟩,⟨some 35,.idxA none 1
 (.tmp 33) (.tmp 34),none⟩,⟨none,.store 1 (.tmp 35) (.const (.bool true)),none⟩])))) ( .region 0 [⟨some 36,.bin .add (.tmp 16) (.const (.int .i64 1)),none⟩,⟨some 16,.mv (.tmp 36),
 none⟩]))))))) ( .seq (.region 0 [⟨some 4,.mv (.const (.int .i64 0)),none⟩]) ( .ret)))))⟩
def f85 : IFn:=⟨26,[.tmp 4],.seq (.region 0 [⟨some 4,.mv (.const (.bool false)),none⟩]) ( .seq (.seq (.region 0 [⟨some 6,.mv (.tmp 0),none⟩,⟨some 7,.ln (.tmp 6),none⟩,⟨some 8,.mv (.tmp 1),none⟩,⟨some 9,
 .ln (.tmp 8),none⟩,⟨some 10,.bin .neq (.tmp 7) (.tmp 9),none⟩]) ( .cond (.tmp 10) ( .seq (.region 0 [⟨some 4,.mv (.const (.bool false)),none⟩]) ( .ret)) ( .skip))) ( .seq (.seq (.region 0
 [⟨some 11,.mv (.tmp 0),none⟩,⟨some 12,.ln (.tmp 11),none⟩,⟨some 13,.mv (.const (.int .i64 0)),none⟩]) ( .block 0 ( .loop ( .seq (.region 0 [⟨some 14,.bin .lss (.tmp 13) (.tmp 12),none⟩]) (
 .seq (.cond (.tmp 14) ( .skip) ( .exit 0)) ( .seq (.block 1 ( .seq (.region 0 [⟨some 15,.mv (.tmp 13),none⟩,⟨some 5,.mv (.tmp 15),none⟩]) ( .seq (.draw 0 [⟨0,0,0,⟨some 16,.mv (.tmp 0),
 none⟩,none⟩,⟨1,0,0,⟨some 17,.mv (.tmp 5),none⟩,none⟩,⟨2,0,3,⟨some 18,.idxA none 1 (.tmp 16) (.tmp 17),none⟩,none⟩,⟨3,0,7,⟨some 19,.load none (.tmp 18),none⟩,none⟩,⟨4,0,0,
 ⟨some 20,.mv (.tmp 1),none⟩,none⟩,⟨5,0,0,⟨some 21,.mv (.tmp 5),none⟩,none⟩,⟨6,0,48,⟨some 22,.idxA none 1 (.tmp 20) (.tmp 21),none⟩,none⟩,⟨7,0,112,⟨some 23,.load none (.tmp 22),
 none⟩,none⟩,⟨8,0,255,⟨some 24,.bin .neq (.tmp 19) (.tmp 23),none⟩,none⟩]) ( .cond (.tmp 24) ( .seq (.region 0 [⟨some 4,.mv (.const (.bool false)),none⟩]) ( .ret)) ( .skip))))) ( .region 0
 [⟨some 25,.bin .add (.tmp 13) (.const (.int .i64 1)),none⟩,⟨some 13,.mv (.tmp 25),none⟩]))))))) ( .seq (.region 0 [⟨some 4,.mv (.const (.bool true)),none⟩]) ( .ret))))⟩
def f88 : IFn:=⟨20,[.cell 4 (some 2)],.seq (.region 2 [⟨some 2,.box 27 (.tmp 0),none⟩,⟨some 4,.alloc 110 [(.int .i64 0),(.int .i64 0)],none⟩]) ( .seq (.region 0 [⟨some 8,.fldA 0 (.tmp 2),none⟩,⟨some 9,
 .load (some 2) (.tmp 8),none⟩,⟨some 10,.mv (.tmp 1),none⟩,⟨some 11,.call (.func 140) [(.tmp 9),(.tmp 10)],none⟩,⟨some 7,.mv (.tmp 11),none⟩,⟨some 12,.extr (.tmp 7) 0,none⟩,⟨some 13,
 .extr (.tmp 7) 1,none⟩,⟨some 5,.mv (.tmp 12),none⟩,⟨some 6,.mv (.tmp 13),none⟩]) ( .seq (.region 0 [⟨some 14,.mv (.tmp 5),none⟩,⟨some 15,.fldA 2 (.tmp 2),none⟩,⟨some 16,.load none (.tmp
 15),none⟩,⟨some 17,.mv (.tmp 1),none⟩,⟨some 18,.call (.func 103) [(.tmp 16),(.tmp 17)],none⟩,⟨some 19,.build [(.int .i64 0),(.int .i64 0)] [(0,1,(.tmp 14)),(1,1,(.tmp 18))],none⟩,
 ⟨none,.store 2 (.tmp 4) (.tmp 19),none⟩]) ( .ret)))⟩
def f91 : IFn:=⟨29,[.cell 2 (some 4)],.seq (.region 2 [⟨some 1,.box 27 (.tmp 0),none⟩,⟨some 2,.alloc 44 [(.slice none 0 0),(.int .i64 0),(.int .i64 0),(.slice none 0 0)],none⟩]) ( .seq (.region 1 [⟨some 3,
 .alloc 44 [(.slice none 0 0),(.int .i64 0),(.int .i64 0),(.slice none 0 0)],none⟩]) ( .seq (.region 0 [⟨some 7,.load (some 4) (.tmp 1),none⟩,⟨some 8,.call (.func 93) [(.tmp 7)],none⟩,⟨some
 4,.mv (.tmp 8),none⟩]) ( .seq (.seq (.region 0 [⟨some 9,.mv (.tmp 4),none⟩,⟨some 10,.call (.func 118) [(.tmp 9)],none⟩]) ( .block 0 ( .rangeF (.tmp 10) [11] (.region 0 [⟨some 5,.mv (.tmp 11),
 none⟩]) (.block 1 ( .seq (.region 0 [⟨some 12,.mv (.tmp 5),none⟩,⟨some 13,.fldA 0 (.tmp 3),none⟩,⟨none,.store 1 (.tmp 13) (.tmp 12),none⟩]) ( .exit 0)))))) ( .seq (.region 1 [⟨some 14,.mv
 (.tmp 4),none⟩,⟨some 15,.call (.func 94) [(.tmp 14)],none⟩,⟨some 6,.alloc 110 [(.int .i64 0),(.int .i64 0)],none⟩,⟨none,.store 2 (.tmp 6) (.tmp 15),none⟩]) ( .seq (.draw 0 [⟨0,0,0,⟨some
 16,.idxA (some 2) 1 (.tmp 6) (.const (.int .i64 0)),none⟩,none⟩,⟨1,0,1,⟨some 17,.load none (.tmp 16),none⟩,none⟩,⟨2,0,0,⟨some 18,.idxA (some 2) 1 (.tmp 6) (.const (.int .i64 1)),
 none⟩,none⟩,⟨3,0,4,⟨some 19,.load none (.tmp 18),none⟩,none⟩,⟨4,0,0,⟨some 20,.fldA 2 (.tmp 1),none⟩,none⟩,⟨5,0,16,⟨some 21,.load none (.tmp 20),none⟩,none⟩,⟨6,0,0,⟨some 22,
 .fldA 0 (.tmp 3),none⟩,none⟩,⟨7,0,64,⟨some 23,.load none (.tmp 22),none⟩,none⟩,⟨9,0,195,⟨some 25,.fldA 1 (.tmp 3),none⟩,none⟩,⟨8,0,240,⟨some 24,.call (.func 77) [(.tmp 21),(.tmp
 23)],none⟩,none⟩,⟨10,0,1011,⟨none,.store 1 (.tmp 25) (.tmp 17),none⟩,none⟩,⟨11,0,2047,⟨some 26,.fldA 2 (.tmp 3),none⟩,none⟩,⟨12,0,4095,⟨none,.store 1 (.tmp 26) (.tmp 19),none⟩,
 none⟩,⟨13,0,8191,⟨some 27,.fldA 3 (.tmp 3),none⟩,none⟩,⟨14,0,16383,⟨none,.store 1 (.tmp 27) (.tmp 24),none⟩,none⟩]) ( .seq (.region 0 [⟨some 28,.load (some 4) (.tmp 3),none⟩,⟨none,
 .store 4 (.tmp 2) (.tmp 28),none⟩]) ( .ret)))))))⟩
def f93 : IFn:=⟨152,[.tmp 2],.seq (.region 1 [⟨some 1,.box 27 (.tmp 0),none⟩,⟨some 2,.mv (.const (.pointer none)),none⟩]) ( .seq (.draw 3 [⟨0,0,0,⟨some 14,.load (some 4) (.tmp 1),none⟩,none⟩,⟨1,0,0,
 ⟨some 15,.mkmap,none⟩,none⟩,⟨2,1,0,⟨some 16,.fldA 2 (.tmp 1),none⟩,none⟩,⟨3,1,4,⟨some 17,.load none (.tmp 16),none⟩,none⟩,⟨4,1,0,⟨some 18,.fldA 3 (.tmp 1),none⟩,none⟩,⟨5,1,
 16,⟨some 19,.load none (.tmp 18),none⟩,none⟩,⟨6,1,60,⟨some 20,.slc 3 1 (.tmp 17) none (some (.tmp 19)) none,none⟩,none⟩,⟨7,1,0,⟨some 21,.mkmap,none⟩,none⟩,⟨8,2,255,⟨some 22,
 .build ([(.int .i64 0)] ++ reps 2 (.slice none 0 0) ++ [(.int .i64 0)] ++ [(.slice none 0 0)] ++ [(.map none)] ++ [(.slice none 0 0)] ++ [(.int .i64 0)] ++ [(.slice none 0 0)] ++ [(.map none)]) [(0,
 4,(.tmp 14)),(5,1,(.tmp 15)),(6,1,(.tmp 20)),(9,1,(.tmp 21))],none⟩,none⟩,⟨9,2,511,⟨some 23,.box 150 (.tmp 22),none⟩,none⟩,⟨10,3,1023,⟨some 3,.mv (.tmp 23),none⟩,none⟩]) (
 .seq (.seq (.region 0 [⟨some 24,.fldA 2 (.tmp 1),none⟩,⟨some 25,.load none (.tmp 24),none⟩,⟨some 26,.ln (.tmp 25),none⟩,⟨some 27,.mv (.const (.int .i64 0)),none⟩]) ( .block 0 ( .loop (
 .seq (.region 0 [⟨some 28,.bin .lss (.tmp 27) (.tmp 26),none⟩]) ( .seq (.cond (.tmp 28) ( .skip) ( .exit 0)) ( .seq (.block 1 ( .seq (.region 0 [⟨some 29,.mv (.tmp 27),none⟩,⟨some 30,.idxA none
 1 (.tmp 25) (.tmp 27),none⟩,⟨some 31,.load none (.tmp 30),none⟩,⟨some 4,.mv (.tmp 29),none⟩,⟨some 5,.mv (.tmp 31),none⟩]) ( .region 0 [⟨some 32,.mv (.tmp 3),none⟩,⟨some 33,.nilc (.tmp
 32),none⟩,⟨some 34,.fldA 5 (.tmp 33),none⟩,⟨some 35,.load none (.tmp 34),none⟩,⟨some 36,.mv (.tmp 5),none⟩,⟨some 37,.mv (.tmp 4),none⟩,⟨none,.mset [(.int .i64)] false (.tmp 35) (.tmp
 36) (.tmp 37),none⟩]))) ( .region 0 [⟨some 38,.bin .add (.tmp 27) (.const (.int .i64 1)),none⟩,⟨some 27,.mv (.tmp 38),none⟩]))))))) ( .seq (.region 1 [⟨some 39,.mv (.tmp 3),none⟩,⟨some 40,
 .fldA 0 (.tmp 1),none⟩,⟨some 41,.fldA 0 (.tmp 40),none⟩,⟨some 42,.load none (.tmp 41),none⟩,⟨some 43,.mksl 25 1 24 [(.slice none 0 0)] (.tmp 42) (.tmp 42),none⟩,⟨some 44,.nilc (.tmp 39),
 none⟩,⟨some 45,.fldA 8 (.tmp 44),none⟩,⟨none,.store 1 (.tmp 45) (.tmp 43),none⟩]) ( .seq (.seq (.region 0 [⟨some 46,.mv (.tmp 3),none⟩,⟨some 47,.nilc (.tmp 46),none⟩,⟨some 48,.fldA 8
 (.tmp 47),none⟩,⟨some 49,.load none (.tmp 48),none⟩,⟨some 50,.ln (.tmp 49),none⟩,⟨some 51,.mv (.const (.int .i64 0)),none⟩]) ( .block 2 ( .loop ( .seq (.region 0 [⟨some 52,.bin .lss (.tmp
 51) (.tmp 50),none⟩]) ( .seq (.cond (.tmp 52) ( .skip) ( .exit 2)) ( .seq (.block 3 ( .seq (.region 0 [⟨some 53,.mv (.tmp 51),none⟩,⟨some 6,.mv (.tmp 53),none⟩]) ( .draw 1 [⟨0,0,0,⟨some 54,
 .mv (.tmp 3),none⟩,none⟩,⟨1,0,1,⟨some 55,.nilc (.tmp 54),none⟩,none⟩,⟨2,0,3,⟨some 56,.fldA 8 (.tmp 55),none⟩,none⟩,⟨3,0,7,⟨some 57,.load none (.tmp 56),none⟩,none⟩,⟨4,0,0,
 ⟨some 58,.mv (.tmp 6),none⟩,none⟩,⟨5,0,0,⟨some 59,.fldA 0 (.tmp 1),none⟩,none⟩,⟨6,0,32,⟨some 60,.fldA 0 (.tmp 59),none⟩,none⟩,⟨7,0,96,⟨some 61,.load none (.tmp 60),none⟩,
 none⟩,⟨8,0,224,⟨some 62,.mksl 3 1 8 [(.int .i64 0)] (.tmp 61) (.tmp 61),none⟩,none⟩,⟨9,1,511,⟨some 63,.idxA none 1 (.tmp 57) (.tmp 58),none⟩,none⟩,⟨10,1,1023,⟨none,.store 1 (.tmp
 63) (.tmp 62),none⟩,none⟩]))) ( .region 0 [⟨some 64,.bin .add (.tmp 51) (.const (.int .i64 1)),none⟩,⟨some 51,.mv (.tmp 64),none⟩]))))))) ( .seq (.seq (.region 0 [⟨some 65,.fldA 0 (.tmp 1),
 none⟩,⟨some 66,.fldA 1 (.tmp 65),none⟩,⟨some 67,.load none (.tmp 66),none⟩,⟨some 68,.ln (.tmp 67),none⟩,⟨some 69,.mv (.const (.int .i64 0)),none⟩]) ( .block 4 ( .loop ( .seq (.region 0
 [⟨some 70,.bin .lss (.tmp 69) (.tmp 68),none⟩]) ( .seq (.cond (.tmp 70) ( .skip) ( .exit 4)) ( .seq (.block 5 ( .seq (.region 1 [⟨some 71,.idxA none 4 (.tmp 67) (.tmp 69),none⟩,⟨some 72,.load
 (some 4) (.tmp 71),none⟩,⟨some 8,.alloc 181 [(.int .i64 0),(.int .i64 0),(.int .i64 0),(.int .i64 0)],none⟩,⟨none,.store 4 (.tmp 8) (.tmp 72),none⟩]) ( .draw 0 [⟨0,0,0,⟨some 73,.mv
 (.tmp 3),none⟩,none⟩,⟨1,0,1,⟨some 74,.nilc (.tmp 73),none⟩,none⟩,⟨2,0,3,⟨some 75,.fldA 8 (.tmp 74),none⟩,none⟩,⟨3,0,7,⟨some 76,.load none (.tmp 75),none⟩,none⟩,⟨4,0,0,⟨some
 77,.fldA 0 (.tmp 8),none⟩,none⟩,⟨5,0,16,⟨some 78,.load none (.tmp 77),none⟩,none⟩,⟨6,0,63,⟨some 79,.idxA none 1 (.tmp 76) (.tmp 78),none⟩,none⟩,⟨7,0,127,⟨some 80,.load none
 (.tmp 79),none⟩,none⟩,⟨8,0,0,⟨some 81,.fldA 1 (.tmp 8),none⟩,none⟩,⟨9,0,256,⟨some 82,.load none (.tmp 81),none⟩,none⟩,⟨10,0,0,⟨some 83,.fldA 3 (.tmp 8),none⟩,none⟩,⟨11,0,
 1024,⟨some 84,.load none (.tmp 83),none⟩,none⟩,⟨12,0,4095,⟨some 85,.idxA none 1 (.tmp 80) (.tmp 82),none⟩,none⟩,⟨13,0,8191,⟨none,.store 1 (.tmp 85) (.tmp 84),none⟩,none⟩]))) (
 .region 0 [⟨some 86,.bin .add (.tmp 69) (.const (.int .i64 1)),none⟩,⟨some 69,.mv (.tmp 86),none⟩]))))))) ( .seq (.seq (.region 0 [⟨some 87,.mv (.tmp 3),none⟩,⟨some 88,.nilc (.tmp 87),
 none⟩,⟨some 89,.fldA 6 (.tmp 88),none⟩,⟨some 90,.load none (.tmp 89),none⟩,⟨some 91,.ln (.tmp 90),none⟩,⟨some 92,.mv (.const (.int .i64 0)),none⟩]) ( .block 6 ( .loop ( .seq (.region 0
 [⟨some 93,.bin .lss (.tmp 92) (.tmp 91),none⟩]) ( .seq (.cond (.tmp 93) ( .skip) ( .exit 6)) ( .seq (.block 7 ( .seq (.region 0 [⟨some 94,.mv (.tmp 92),none⟩,⟨some 95,.idxA none 1 (.tmp 90)
 (.tmp 92),none⟩,⟨some 96,.load none (.tmp 95),none⟩,⟨some 9,.mv (.tmp 94),none⟩,⟨some 10,.mv (.tmp 96),none⟩]) ( .seq (.region 0 [⟨some 97,.mv (.tmp 3),none⟩,⟨some 98,.nilc (.tmp 97),
 none⟩,⟨some 99,.fldA 6 (.tmp 98),none⟩,⟨some 100,.load none (.tmp 99),none⟩,⟨some 101,.mv (.tmp 9),none⟩,⟨some 102,.slc 3 1 (.tmp 100) none (some (.tmp 101)) none,none⟩,⟨some 103,.ln
 (.tmp 102),none⟩,⟨some 104,.mv (.const (.int .i64 0)),none⟩]) ( .block 8 ( .loop ( .seq (.region 0 [⟨some 105,.bin .lss (.tmp 104) (.tmp 103),none⟩]) ( .seq (.cond (.tmp 105) ( .skip) ( .exit
 8)) ( .seq (.block 9 ( .seq (.region 0 [⟨some 106,.idxA none 1 (.tmp 102) (.tmp 104),none⟩,⟨some 107,.load none (.tmp 106),none⟩,⟨some 12,.mv (.tmp 107),none⟩]) ( .draw 0 [⟨0,0,0,⟨some
 108,.mv (.tmp 3),none⟩,none⟩,⟨1,0,1,⟨some 109,.nilc (.tmp 108),none⟩,none⟩,⟨2,0,3,⟨some 110,.fldA 7 (.tmp 109),none⟩,none⟩,⟨3,0,7,⟨some 111,.load none (.tmp 110),none⟩,none⟩,
 ⟨4,0,0,⟨some 112,.mv (.tmp 3),none⟩,none⟩,⟨5,0,16,⟨some 113,.nilc (.tmp 112),none⟩,none⟩,⟨6,0,48,⟨some 114,.fldA 8 (.tmp 113),none⟩,none⟩,⟨7,0,112,⟨some 115,.load none (.tmp
 114),none⟩,none⟩,⟨8,0,0,⟨some 116,.mv (.tmp 10),none⟩,none⟩,⟨9,0,496,⟨some 117,.idxA none 1 (.tmp 115) (.tmp 116),none⟩,none⟩,⟨10,0,1008,⟨some 118,.load none (.tmp 117),none⟩,
 none⟩,⟨11,0,0,⟨some 119,.mv (.tmp 12),none⟩,none⟩,⟨12,0,4080,⟨some 120,.idxA none 1 (.tmp 118) (.tmp 119),none⟩,none⟩,⟨13,0,8176,⟨some 121,.load none (.tmp 120),none⟩,none⟩,⟨14,
 0,16383,⟨some 122,.bin .add (.tmp 111) (.tmp 121),none⟩,none⟩,⟨15,0,32767,⟨some 123,.nilc (.tmp 108),none⟩,none⟩,⟨16,0,65535,⟨some 124,.fldA 7 (.tmp 123),none⟩,none⟩,⟨17,0,
 131071,⟨none,.store 1 (.tmp 124) (.tmp 122),none⟩,none⟩]))) ( .region 0 [⟨some 125,.bin .add (.tmp 104) (.const (.int .i64 1)),none⟩,⟨some 104,.mv (.tmp 125),none⟩]))))))))) ( .region 0
 [⟨some 126,.bin .add (.tmp 92) (.const (.int .i64 1)),none⟩,⟨some 92,.mv (.tmp 126),none⟩]))))))) ( .seq (.seq (.region 0 [⟨some 127,.fldA 0 (.tmp 1),none⟩,⟨some 128,.fldA 0 (.tmp 127),
 none⟩,⟨some 129,.load none (.tmp 128),none⟩,⟨some 130,.mv (.const (.int .i64 0)),none⟩]) ( .block 10 ( .loop ( .seq (.region 0 [⟨some 131,.bin .lss (.tmp 130) (.tmp 129),none⟩]) ( .seq (.cond
 (.tmp 131) ( .skip) ( .exit 10)) ( .seq (.block 11 ( .seq (.region 0 [⟨some 132,.mv (.tmp 130),none⟩,⟨some 13,.mv (.tmp 132),none⟩]) ( .seq (.region 0 [⟨some 133,.mv (.tmp 3),none⟩,⟨some 134,
 .nilc (.tmp 133),none⟩,⟨some 135,.fldA 6 (.tmp 134),none⟩,⟨some 136,.load none (.tmp 135),none⟩,⟨some 137,.mv (.tmp 13),none⟩,⟨some 138,.call (.func 74) [(.tmp 136),(.tmp 137)],none⟩,
 ⟨some 139,.un .not (.tmp 138),none⟩]) ( .cond (.tmp 139) ( .region 2 [⟨some 140,.mv (.tmp 3),none⟩,⟨some 141,.mv (.tmp 3),none⟩,⟨some 142,.nilc (.tmp 141),none⟩,⟨some 143,.fldA 4 (.tmp
 142),none⟩,⟨some 144,.load none (.tmp 143),none⟩,⟨some 145,.mv (.tmp 13),none⟩,⟨some 146,.bslice 3 1 [(.int .i64 0)] 1 [(0,1,(.tmp 145))],none⟩,⟨some 147,.app 3 1 8 [(.int .i64 0)]
 (.tmp 144) (.tmp 146),none⟩,⟨some 148,.nilc (.tmp 140),none⟩,⟨some 149,.fldA 4 (.tmp 148),none⟩,⟨none,.store 1 (.tmp 149) (.tmp 147),none⟩]) ( .skip))))) ( .region 0 [⟨some 150,.bin .add
 (.tmp 130) (.const (.int .i64 1)),none⟩,⟨some 130,.mv (.tmp 150),none⟩]))))))) ( .seq (.region 0 [⟨some 151,.mv (.tmp 3),none⟩,⟨some 2,.mv (.tmp 151),none⟩]) ( .ret)))))))))⟩
end Go.Gx.A
