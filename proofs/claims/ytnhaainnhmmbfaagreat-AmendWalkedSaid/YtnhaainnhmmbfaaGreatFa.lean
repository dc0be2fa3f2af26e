/-
  Functions of this seat, as the abstract machine runs them (printed by a program of mine), part 1.
-/
import Derived.Test.YtnhaainnhmmbfaaGreatGe
set_option linter.all false
set_option linter.deprecated false
namespace Go.Gx.Z
open Go.Gx
def f4 : IFn:=⟨64,[.tmp 8],.seq (.region 1 [oS 4 (.box 24 (tm 0)),oS 8 (.mv (.const (.bool false)))]) ( .seq (.seq (.region 0 [oS 15 (.load (some 2) (tm 4)),oS 16 (.mv (tm 1)),oS 17 (.mv (tm 2)),oS 18 (.call (.func
 5) [(tm 15),(tm 16),(tm 17)]),oS 19 (.un .not (tm 18)),oS 20 (.mv (tm 19)),oG 21 (.mv (tm 3)) 20 false,oG 22 (.ln (tm 21)) 20 false,oG 23 (.bin .gtr (tm 22) (ci 10)) 20 false,oS 24 (.pick (tm 20)
 (.const (.bool true)) (tm 23))]) ( .cond (tm 24) ( .seq (.region 0 [oS 25 (.call (.func 6) []),oS 8 (.mv (tm 25))]) ( .ret)) ( .skip))) ( .seq (.seq (.region 0 [oS 26 (.mv (tm 3)),oS 27 (.ln (tm
 26)),oS 28 (.mv (ci 0))]) ( .block 0 ( .loop ( .seq (.region 0 [oS 29 (.bin .lss (tm 28) (tm 27))]) ( .seq (.cond (tm 29) ( .skip) ( .exit 0)) ( .seq (.block 1 ( .seq (.region 0 [oS 30 (.idxA none 1
 (tm 26) (tm 28)),oS 31 (.load none (tm 30)),oS 10 (.mv (tm 31))]) ( .seq (.region 0 [oS 32 (.mv (tm 10)),oS 33 (.ln (tm 32)),oS 34 (.bin .gtr (tm 33) (ci 10))]) ( .cond (tm 34) ( .seq (.region 0 [oS
 35 (.call (.func 6) []),oS 8 (.mv (tm 35))]) ( .ret)) ( .skip))))) ( .region 0 [oS 36 (.bin .add (tm 28) (ci 1)),oS 28 (.mv (tm 36))]))))))) ( .seq (.region 0 [oS 38 (.load (some 2) (tm 4)),oS 39
 (.mv (tm 1)),oS 40 (.mv (tm 2)),oS 41 (.mv (tm 3)),oS 42 (.call (.func 10) [(tm 38),(tm 39),(tm 40),(tm 41)]),oS 37 (.mv (tm 42)),oS 43 (.extr (tm 37) 0),oS 44 (.extr (tm 37) 1),oS 11 (.mv (tm
 43)),oS 12 (.mv (tm 44))]) ( .seq (.region 0 [oS 46 (.load (some 2) (tm 4)),oS 47 (.mv (tm 1)),oS 48 (.mv (tm 2)),oS 49 (.mv (tm 3)),oS 50 (.call (.func 11) [(tm 46),(tm 47),(tm 48),(tm 49)]),oS 45
 (.mv (tm 50)),oS 51 (.extr (tm 45) 0),oS 52 (.extr (tm 45) 1),oS 13 (.mv (tm 51)),oS 14 (.mv (tm 52))]) ( .seq (.region 0 [oS 53 (.call (.func 6) []),oS 54 (.mv (tm 53)),oG 55 (.mv (tm 11)) 54
 true,oG 56 (.mv (tm 13)) 54 true,oG 57 (.eqc false [.bool] false (tm 55) (tm 56)) 54 true,oS 58 (.pick (tm 54) (tm 57) (.const (.bool false))),oS 59 (.mv (tm 58)),oG 60 (.mv (tm 12)) 59 true,oG 61
 (.mv (tm 14)) 59 true,oG 62 (.bin .eql (tm 60) (tm 61)) 59 true,oS 63 (.pick (tm 59) (tm 62) (.const (.bool false))),oS 8 (.mv (tm 63))]) ( .ret))))))⟩
def f5 : IFn:=⟨39,[.tmp 6],.seq (.region 1 [oS 3 (.box 24 (tm 0)),oS 6 (.mv (.const (.bool false)))]) ( .seq (.seq (.region 0 [oS 10 (.fldA 0 (tm 3)),oS 11 (.load none (tm 10)),oS 12 (.bin .gtr (tm 11) (ci 5)),oS
 13 (.mv (tm 12)),oG 14 (.mv (tm 1)) 13 false,oG 15 (.ln (tm 14)) 13 false,oG 16 (.bin .gtr (tm 15) (ci 10)) 13 false,oS 17 (.pick (tm 13) (.const (.bool true)) (tm 16)),oS 18 (.mv (tm 17)),oG 19 (.mv
 (tm 2)) 18 false,oG 20 (.ln (tm 19)) 18 false,oG 21 (.bin .gtr (tm 20) (ci 6)) 18 false,oS 22 (.pick (tm 18) (.const (.bool true)) (tm 21))]) ( .cond (tm 22) ( .seq (.region 0 [oS 6 (.mv (.const
 (.bool false)))]) ( .ret)) ( .skip))) ( .seq (.region 0 [oS 23 (.fldA 0 (tm 3)),oS 24 (.load none (tm 23)),oS 7 (.mv (tm 24))]) ( .seq (.seq (.region 0 [oS 25 (.mv (tm 2)),oS 26 (.ln (tm 25)),oS 27
 (.mv (ci 0))]) ( .block 0 ( .loop ( .seq (.region 0 [oS 28 (.bin .lss (tm 27) (tm 26))]) ( .seq (.cond (tm 28) ( .skip) ( .exit 0)) ( .seq (.block 1 ( .seq (.region 1 [oS 29 (.idxA none 4 (tm 25) (tm
 27)),oS 30 (.load (some 4) (tm 29)),oS 9 (.alloc 38 [(.int .u8 0),(.int .i64 0),(.int .i64 0),(.slice none 0 0)]),oN (.store 4 (tm 9) (tm 30))]) ( .region 0 [oS 31 (.mv (tm 7)),oS 32 (.fldA 2 (tm
 9)),oS 33 (.fldA 0 (tm 32)),oS 34 (.load none (tm 33)),oS 35 (.maxb [(tm 31),(tm 34)]),oS 7 (.mv (tm 35))]))) ( .region 0 [oS 36 (.bin .add (tm 27) (ci 1)),oS 27 (.mv (tm 36))]))))))) ( .seq (.region
 0 [oS 37 (.mv (tm 7)),oS 38 (.bin .leq (tm 37) (ci 6)),oS 6 (.mv (tm 38))]) ( .ret)))))⟩
def f6 : IFn:=⟨146,[.tmp 0],.seq (.region 0 [oS 0 (.mv (.const (.bool false)))]) ( .seq (.region 2 [oS 15 (.call (.func 12) []),oS 16 (.bslice 3 1 [(.int .i64 0),(.int .i64 0),(.int .i64 0)] 3 [(0,1,(ci
 0)),(1,1,(ci 1)),(2,1,(ci 2))]),oS 17 (.build [(.int .i64 0),(.slice none 0 0),(.slice none 0 0),(.int .i64 0)] [(0,2,(tm 15)),(2,1,(tm 16))]),oS 1 (.alloc 41 [(.int .i64 0),(.slice none 0 0),(.slice
 none 0 0),(.int .i64 0)]),oN (.store 4 (tm 1) (tm 17))]) ( .seq (.region 1 [oS 19 (.load (some 4) (tm 1)),oS 20 (.call (.func 13) [(tm 19)]),oS 18 (.mv (tm 20)),oS 21 (.extr (tm 18) 0),oS 22 (.extr
 (tm 18) 1),oS 2 (.alloc 43 [(.slice none 0 0),(.int .i64 0),(.int .i64 0),(.slice none 0 0)]),oN (.store 4 (tm 2) (tm 21)),oS 3 (.mv (tm 22))]) ( .seq (.region 1 [oS 24 (.load (some 4) (tm 1)),oS 25
 (.call (.func 14) [(tm 24)]),oS 23 (.mv (tm 25)),oS 26 (.extr (tm 23) 0),oS 27 (.extr (tm 23) 1),oS 4 (.alloc 48 [(.slice none 0 0)]),oN (.store 1 (tm 4) (tm 26)),oS 5 (.mv (tm 27))]) ( .seq (.seq
 (.region 2 [oS 28 (.mv (tm 3)),oS 29 (.bin .neq (tm 28) (ci 0)),oS 30 (.mv (tm 29)),oG 31 (.mv (tm 5)) 30 false,oG 32 (.bin .neq (tm 31) (ci 0)) 30 false,oS 33 (.pick (tm 30) (.const (.bool true))
 (tm 32)),oS 34 (.mv (tm 33)),oG 35 (.fldA 0 (tm 2)) 34 false,oG 36 (.load none (tm 35)) 34 false,oG 37 (.bslice 3 1 [(.int .i64 0),(.int .i64 0),(.int .i64 0)] 3 [(0,1,(ci 2)),(1,1,(ci 0)),(2,1,(ci
 1))]) 34 false,oG 38 (.call (.func 15) [(tm 36),(tm 37)]) 34 false,oG 39 (.un .not (tm 38)) 34 false,oS 40 (.pick (tm 34) (.const (.bool true)) (tm 39)),oS 41 (.mv (tm 40)),oG 42 (.fldA 1 (tm 2)) 41
 false,oG 43 (.load none (tm 42)) 41 false,oG 44 (.bin .neq (tm 43) (ci 0)) 41 false,oS 45 (.pick (tm 41) (.const (.bool true)) (tm 44)),oS 46 (.mv (tm 45)),oG 47 (.fldA 2 (tm 2)) 46 false,oG 48
 (.load none (tm 47)) 46 false,oG 49 (.bin .neq (tm 48) (ci 1)) 46 false,oS 50 (.pick (tm 46) (.const (.bool true)) (tm 49)),oS 51 (.mv (tm 50)),oG 52 (.fldA 3 (tm 2)) 51 false,oG 53 (.load none (tm
 52)) 51 false,oG 54 (.bslice 3 1 [(.int .i64 0),(.int .i64 0)] 2 [(0,1,(ci 0)),(1,1,(ci 1))]) 51 false,oG 55 (.call (.func 15) [(tm 53),(tm 54)]) 51 false,oG 56 (.un .not (tm 55)) 51 false,oS 57
 (.pick (tm 51) (.const (.bool true)) (tm 56)),oS 58 (.mv (tm 57)),oG 59 (.fldA 0 (tm 4)) 58 false,oG 60 (.load none (tm 59)) 58 false,oG 61 (.ln (tm 60)) 58 false,oG 62 (.bin .neq (tm 61) (ci 6)) 58
 false,oS 63 (.pick (tm 58) (.const (.bool true)) (tm 62))]) ( .cond (tm 63) ( .seq (.region 0 [oS 0 (.mv (.const (.bool false)))]) ( .ret)) ( .skip))) ( .seq (.region 0 [oS 64 (.fldA 3 (tm 1)),oN
 (.store 1 (tm 64) (ci 1))]) ( .seq (.region 1 [oS 66 (.load (some 4) (tm 1)),oS 67 (.call (.func 13) [(tm 66)]),oS 65 (.mv (tm 67)),oS 68 (.extr (tm 65) 0),oS 69 (.extr (tm 65) 1),oS 6 (.alloc 43
 [(.slice none 0 0),(.int .i64 0),(.int .i64 0),(.slice none 0 0)]),oN (.store 4 (tm 6) (tm 68)),oS 7 (.mv (tm 69))]) ( .seq (.region 1 [oS 71 (.load (some 4) (tm 1)),oS 72 (.bslice 3 1 [(.int .i64
 0),(.int .i64 0),(.int .i64 0)] 3 [(0,1,(ci 2)),(1,1,(ci 0)),(2,1,(ci 1))]),oS 73 (.call (.func 16) [(tm 71),(tm 72)]),oS 70 (.mv (tm 73)),oS 74 (.extr (tm 70) 0),oS 75 (.extr (tm 70) 1),oS 76 (.extr
 (tm 70) 2),oS 8 (.mv (tm 74)),oS 9 (.mv (tm 75)),oS 10 (.mv (tm 76))]) ( .seq (.region 0 [oS 78 (.load (some 4) (tm 1)),oS 79 (.call (.func 17) [(tm 78)]),oS 77 (.mv (tm 79)),oS 80 (.extr (tm 77)
 0),oS 81 (.extr (tm 77) 1),oS 11 (.mv (tm 80)),oS 12 (.mv (tm 81))]) ( .seq (.region 2 [oS 83 (.bslice 3 1 [(.int .i64 0),(.int .i64 0),(.int .i64 0)] 3 [(0,1,(ci 1)),(1,1,(ci 2)),(2,1,(ci 3))]),oS
 84 (.bslice 3 1 [(.int .i64 0),(.int .i64 0),(.int .i64 0)] 3 [(0,1,(ci 3)),(1,1,(ci 1)),(2,1,(ci 5))]),oS 85 (.call (.func 18) [(tm 83),(tm 84)]),oS 82 (.mv (tm 85)),oS 86 (.extr (tm 82) 0),oS 87
 (.extr (tm 82) 1),oS 13 (.mv (tm 86)),oS 14 (.mv (tm 87))]) ( .seq (.seq (.region 0 [oS 88 (.mv (tm 7)),oS 89 (.bin .neq (tm 88) (ci 0)),oS 90 (.mv (tm 89)),oG 91 (.mv (tm 10)) 90 false,oG 92 (.bin
 .neq (tm 91) (ci 70)) 90 false,oS 93 (.pick (tm 90) (.const (.bool true)) (tm 92)),oS 94 (.mv (tm 93)),oG 95 (.mv (tm 12)) 94 false,oG 96 (.bin .neq (tm 95) (ci 0)) 94 false,oS 97 (.pick (tm 94)
 (.const (.bool true)) (tm 96)),oS 98 (.mv (tm 97)),oG 99 (.mv (tm 11)) 98 false,oG 100 (.bin .neq (tm 99) (ci 1)) 98 false,oS 101 (.pick (tm 98) (.const (.bool true)) (tm 100)),oS 102 (.mv (tm
 101)),oG 103 (.mv (tm 14)) 102 false,oG 104 (.bin .neq (tm 103) (ci 0)) 102 false,oS 105 (.pick (tm 102) (.const (.bool true)) (tm 104)),oS 106 (.mv (tm 105)),oG 107 (.mv (tm 13)) 106 false,oG 108
 (.ln (tm 107)) 106 false,oG 109 (.bin .neq (tm 108) (ci 3)) 106 false,oS 110 (.pick (tm 106) (.const (.bool true)) (tm 109))]) ( .cond (tm 110) ( .seq (.region 0 [oS 0 (.mv (.const (.bool false)))])
 ( .ret)) ( .skip))) ( .seq (.region 1 [oS 111 (.fldA 0 (tm 6)),oS 112 (.load none (tm 111)),oS 113 (.bslice 3 1 [(.int .i64 0),(.int .i64 0),(.int .i64 0)] 3 [(0,1,(ci 0)),(1,1,(ci 1)),(2,1,(ci
 2))]),oS 114 (.call (.func 15) [(tm 112),(tm 113)]),oS 115 (.mv (tm 114)),oG 116 (.fldA 1 (tm 6)) 115 true,oG 117 (.load none (tm 116)) 115 true,oG 118 (.bin .eql (tm 117) (ci 2)) 115 true,oS 119
 (.pick (tm 115) (tm 118) (.const (.bool false))),oS 120 (.mv (tm 119)),oG 121 (.fldA 2 (tm 6)) 120 true,oG 122 (.load none (tm 121)) 120 true,oG 123 (.bin .eql (tm 122) (ci 0)) 120 true,oS 124 (.pick
 (tm 120) (tm 123) (.const (.bool false))),oS 125 (.mv (tm 124)),oG 126 (.mv (tm 13)) 125 true,oG 127 (.idxA none 3 (tm 126) (ci 0)) 125 true,oG 128 (.load (some 3) (tm 127)) 125 true,oG 129 (.build
 [(.int .i64 0),(.int .i64 0),(.int .i64 0)] [(0,1,(ci 2)),(1,1,(ci 1)),(2,1,(.const (.int .i64 (-1))))]) 125 true,oG 130 (.eqc false [(.int .i64),(.int .i64),(.int .i64)] true (tm 128) (tm 129)) 125
 true,oS 131 (.pick (tm 125) (tm 130) (.const (.bool false))),oS 132 (.mv (tm 131)),oG 133 (.mv (tm 13)) 132 true,oG 134 (.idxA none 3 (tm 133) (ci 1)) 132 true,oG 135 (.load (some 3) (tm 134)) 132
 true,oG 136 (.build [(.int .i64 0),(.int .i64 0),(.int .i64 0)] [(0,1,(ci 3)),(1,1,(ci 1)),(2,1,(ci 0))]) 132 true,oG 137 (.eqc false [(.int .i64),(.int .i64),(.int .i64)] true (tm 135) (tm 136)) 132
 true,oS 138 (.pick (tm 132) (tm 137) (.const (.bool false))),oS 139 (.mv (tm 138)),oG 140 (.mv (tm 13)) 139 true,oG 141 (.idxA none 3 (tm 140) (ci 2)) 139 true,oG 142 (.load (some 3) (tm 141)) 139
 true,oG 143 (.build [(.int .i64 0),(.int .i64 0),(.int .i64 0)] [(0,1,(ci 5)),(1,1,(.const (.int .i64 (-1)))),(2,1,(ci 2))]) 139 true,oG 144 (.eqc false [(.int .i64),(.int .i64),(.int .i64)] true (tm
 142) (tm 143)) 139 true,oS 145 (.pick (tm 139) (tm 144) (.const (.bool false))),oS 0 (.mv (tm 145))]) ( .ret))))))))))))⟩
def f10 : IFn:=⟨40,[.cell 8 none,.cell 9 none],.seq (.region 4 [oS 4 (.box 24 (tm 0)),oS 7 (.box 29 (tm 3)),oS 8 (.alloc 4 [(.bool false)]),oS 9 (.alloc 30 [(.int .i64 0)])]) ( .seq (.region 0 [oS 15 (.mkfn (.func
 30) [] [(tm 8),(tm 9)]),oN (.defer (tm 15) [])]) ( .seq (.region 0 [oN (.defer (.func 20) [(tm 9)])]) ( .seq (.region 1 [oS 10 (.alloc 3 [(.int .i64 0)]),oN (.store 1 (tm 10) (ci 0))]) ( .seq
 (.region 1 [oS 11 (.alloc 4 [(.bool false)]),oN (.store 1 (tm 11) (.const (.bool true)))]) ( .seq (.region 0 [oS 16 (.load (some 2) (tm 4)),oS 17 (.mv (tm 1)),oS 18 (.mv (tm 2)),oS 19 (.mkfn (.func
 31) [] [(tm 7),(tm 10),(tm 11)]),oS 20 (.call (.func 21) [(tm 16),(tm 17),(tm 18),(tm 19)]),oS 12 (.mv (tm 20))]) ( .seq (.seq (.region 0 [oS 21 (.load none (tm 7)),oS 22 (.ln (tm 21)),oS 23 (.mv (tm
 2)),oS 24 (.ln (tm 23)),oS 25 (.bin .neq (tm 22) (tm 24))]) ( .cond (tm 25) ( .seq (.region 0 [oN (.store 1 (tm 8) (.const (.bool false))),oN (.store 1 (tm 9) (ci 0))]) ( .ret)) ( .skip))) ( .seq
 (.seq (.region 0 [oS 26 (.mv (tm 2)),oS 27 (.ln (tm 26)),oS 28 (.mv (ci 0))]) ( .block 0 ( .loop ( .seq (.region 0 [oS 29 (.bin .lss (tm 28) (tm 27))]) ( .seq (.cond (tm 29) ( .skip) ( .exit 0)) (
 .seq (.block 1 ( .seq (.region 1 [oS 30 (.mv (tm 28)),oS 31 (.idxA none 4 (tm 26) (tm 28)),oS 32 (.load (some 4) (tm 31)),oS 14 (.alloc 38 [(.int .u8 0),(.int .i64 0),(.int .i64 0),(.slice none 0
 0)]),oS 13 (.mv (tm 30)),oN (.store 4 (tm 14) (tm 32))]) ( .seq (.region 0 [oS 33 (.mv (tm 13)),oN (.store 1 (tm 10) (tm 33))]) ( .seq (.region 0 [oS 34 (.mv (tm 12)),oS 35 (.load (some 4) (tm
 14)),oS 36 (.call (.func 24) [(tm 34),(tm 35)])]) ( .seq (.region 0 [oS 37 (.load none (tm 11)),oS 38 (.un .not (tm 37))]) ( .cond (tm 38) ( .seq (.region 0 [oN (.store 1 (tm 8) (.const (.bool
 false))),oN (.store 1 (tm 9) (ci 0))]) ( .ret)) ( .skip))))))) ( .region 0 [oS 39 (.bin .add (tm 28) (ci 1)),oS 28 (.mv (tm 39))]))))))) ( .seq (.region 0 [oN (.store 1 (tm 8) (.const (.bool
 true))),oN (.store 1 (tm 9) (ci 0))]) ( .ret)))))))))⟩
def f11 : IFn:=⟨81,[.tmp 8,.tmp 9],.seq (.region 1 [oS 4 (.box 24 (tm 0)),oS 8 (.mv (.const (.bool false))),oS 9 (.mv (ci 0))]) ( .seq (.region 0 [oS 16 (.load (some 2) (tm 4)),oS 17 (.mv (tm 1)),oS 18 (.mv (tm
 2)),oS 19 (.call (.func 26) [(tm 16),(tm 17),(tm 18)]),oS 10 (.mv (tm 19))]) ( .seq (.seq (.region 0 [oS 20 (.mv (tm 10)),oS 21 (.bin .neq (tm 20) (ci 0))]) ( .cond (tm 21) ( .seq (.region 0 [oS 22
 (.mv (tm 10)),oS 8 (.mv (.const (.bool false))),oS 9 (.mv (tm 22))]) ( .ret)) ( .skip))) ( .seq (.seq (.region 0 [oS 23 (.mv (tm 3)),oS 24 (.ln (tm 23)),oS 25 (.mv (tm 2)),oS 26 (.ln (tm 25)),oS 27
 (.bin .neq (tm 24) (tm 26))]) ( .cond (tm 27) ( .seq (.region 0 [oS 8 (.mv (.const (.bool false))),oS 9 (.mv (ci 0))]) ( .ret)) ( .skip))) ( .seq (.draw 3 [⟨0,0,0,oS 28 (.load (some 2) (tm
 4)),none⟩,⟨1,0,0,oS 29 (.bslice 3 1 [] 0 []),none⟩,⟨2,1,0,oS 30 (.mv (tm 1)),none⟩,⟨5,2,0,oS 11 (.alloc 73 [(.int .i64 0),(.slice none 0 0),(.slice none 0 0),(.int .i64 0)]),none⟩,⟨3,1,6,oS 31 (.app
 3 1 8 [(.int .i64 0)] (tm 29) (tm 30)),none⟩,⟨4,2,15,oS 32 (.build [(.int .i64 0),(.slice none 0 0),(.slice none 0 0),(.int .i64 0)] [(0,2,(tm 28)),(2,1,(tm 31))]),none⟩,⟨6,3,63,oN (.store 4 (tm 11)
 (tm 32)),none⟩]) ( .seq (.seq (.region 0 [oS 12 (.mv (ci 0))]) ( .block 0 ( .loop ( .seq (.seq (.region 0 [oS 33 (.mv (tm 12)),oS 34 (.mv (tm 2)),oS 35 (.ln (tm 34)),oS 36 (.bin .lss (tm 33) (tm
 35))]) ( .cond (tm 36) ( .skip) ( .exit 0))) ( .seq (.block 1 ( .seq (.draw 1 [⟨0,0,0,oS 40 (.load (some 4) (tm 11)),none⟩,⟨1,0,0,oS 41 (.mv (tm 2)),none⟩,⟨2,0,0,oS 42 (.mv (tm 12)),none⟩,⟨3,0,6,oS
 43 (.idxA none 4 (tm 41) (tm 42)),none⟩,⟨4,0,14,oS 44 (.load (some 4) (tm 43)),none⟩,⟨9,0,0,oS 13 (.alloc 73 [(.int .i64 0),(.slice none 0 0),(.slice none 0 0),(.int .i64 0)]),none⟩,⟨5,0,31,oS 45
 (.call (.func 27) [(tm 40),(tm 44)]),none⟩,⟨6,0,63,oS 39 (.mv (tm 45)),none⟩,⟨7,0,127,oS 46 (.extr (tm 39) 0),none⟩,⟨8,0,127,oS 47 (.extr (tm 39) 1),none⟩,⟨10,1,767,oN (.store 4 (tm 13) (tm
 46)),none⟩,⟨11,1,2047,oS 14 (.mv (tm 47)),none⟩]) ( .seq (.seq (.region 0 [oS 48 (.mv (tm 14)),oS 49 (.bin .neq (tm 48) (ci 0))]) ( .cond (tm 49) ( .seq (.region 0 [oS 50 (.mv (tm 14)),oS 8 (.mv
 (.const (.bool false))),oS 9 (.mv (tm 50))]) ( .ret)) ( .skip))) ( .seq (.draw 0 [⟨0,0,0,oS 51 (.fldA 2 (tm 13)),none⟩,⟨1,0,1,oS 52 (.load none (tm 51)),none⟩,⟨2,0,0,oS 53 (.mv (tm
 3)),none⟩,⟨3,0,0,oS 54 (.mv (tm 12)),none⟩,⟨4,0,12,oS 55 (.idxA none 1 (tm 53) (tm 54)),none⟩,⟨5,0,28,oS 56 (.load none (tm 55)),none⟩,⟨6,0,63,oS 57 (.call (.func 15) [(tm 52),(tm
 56)]),none⟩,⟨7,0,127,oS 15 (.mv (tm 57)),none⟩]) ( .seq (.seq (.region 0 [oS 58 (.mv (tm 2)),oS 59 (.mv (tm 12)),oS 60 (.idxA none 4 (tm 58) (tm 59)),oS 61 (.fldA 0 (tm 60)),oS 62 (.load none (tm
 61)),oS 63 (.bin .neq (tm 62) (.const (.int .u8 1)))]) ( .cond (tm 63) ( .draw 0 [⟨0,0,0,oS 64 (.load (some 4) (tm 13)),none⟩,⟨2,0,0,oS 66 (.mv (tm 3)),none⟩,⟨3,0,0,oS 67 (.mv (tm
 12)),none⟩,⟨4,0,12,oS 68 (.idxA none 1 (tm 66) (tm 67)),none⟩,⟨5,0,28,oS 69 (.load none (tm 68)),none⟩,⟨1,0,1,oS 65 (.call (.func 29) [(tm 64)]),none⟩,⟨6,0,63,oS 70 (.call (.func 37) [(tm 65),(tm
 69)]),none⟩,⟨7,0,127,oS 15 (.mv (tm 70)),none⟩]) ( .skip))) ( .seq (.seq (.region 0 [oS 71 (.mv (tm 15)),oS 72 (.un .not (tm 71))]) ( .cond (tm 72) ( .seq (.region 0 [oS 8 (.mv (.const (.bool
 false))),oS 9 (.mv (ci 0))]) ( .ret)) ( .skip))) ( .seq (.region 2 [oS 73 (.bslice 3 1 [] 0 []),oS 74 (.mv (tm 3)),oS 75 (.mv (tm 12)),oS 76 (.idxA none 1 (tm 74) (tm 75)),oS 77 (.load none (tm
 76)),oS 78 (.app 3 1 8 [(.int .i64 0)] (tm 73) (tm 77)),oS 79 (.fldA 2 (tm 13)),oN (.store 1 (tm 79) (tm 78))]) ( .region 0 [oS 80 (.load (some 4) (tm 13)),oN (.store 4 (tm 11) (tm 80))])))))))) (
 .region 0 [oS 37 (.mv (tm 12)),oS 38 (.bin .add (tm 37) (ci 1)),oS 12 (.mv (tm 38))])))))) ( .seq (.region 0 [oS 8 (.mv (.const (.bool true))),oS 9 (.mv (ci 0))]) ( .ret)))))))⟩
def f12 : IFn:=⟨5,[.cell 0 (some 2)],.seq (.region 1 [oS 0 (.alloc 24 [(.int .i64 0),(.slice none 0 0)])]) ( .seq (.region 1 [oS 1 (.build [(.int .i64 0),(.int .i64 0),(.int .i64 0),(.int .i64 0)] [(0,1,(ci
 0)),(1,1,(ci 1)),(3,1,(ci 5))]),oS 2 (.build [(.int .i64 0),(.int .i64 0),(.int .i64 0),(.int .i64 0)] [(0,1,(ci 2)),(1,1,(ci 0)),(3,1,(ci 2))]),oS 3 (.bslice 86 4 (reps 8 (.int .i64 0)) 2 [(0,4,(tm
 1)),(4,4,(tm 2))]),oS 4 (.build [(.int .i64 0),(.slice none 0 0)] [(0,1,(ci 3)),(1,1,(tm 3))]),oN (.store 2 (tm 0) (tm 4))]) ( .ret))⟩
def f13 : IFn:=⟨13,[.cell 2 (some 4),.tmp 3],.seq (.region 2 [oS 1 (.box 41 (tm 0)),oS 2 (.alloc 43 [(.slice none 0 0),(.int .i64 0),(.int .i64 0),(.slice none 0 0)]),oS 3 (.mv (ci 0))]) ( .seq (.seq (.region 0 [oS
 5 (.load (some 4) (tm 1)),oS 6 (.call (.func 38) [(tm 5)]),oS 4 (.mv (tm 6))]) ( .seq (.region 0 [oS 7 (.mv (tm 4)),oS 8 (.bin .neq (tm 7) (ci 0))]) ( .cond (tm 8) ( .seq (.region 0 [oS 9 (.build
 [(.slice none 0 0),(.int .i64 0),(.int .i64 0),(.slice none 0 0)] []),oS 10 (.mv (tm 4)),oN (.store 4 (tm 2) (tm 9)),oS 3 (.mv (tm 10))]) ( .ret)) ( .skip)))) ( .seq (.region 0 [oS 11 (.load (some 4)
 (tm 1)),oS 12 (.call (.func 23) [(tm 11)]),oN (.store 4 (tm 2) (tm 12)),oS 3 (.mv (ci 0))]) ( .ret)))⟩
def f14 : IFn:=⟨106,[.cell 2 (some 1),.tmp 3],.seq (.region 2 [oS 1 (.box 41 (tm 0)),oS 2 (.alloc 48 [(.slice none 0 0)]),oS 3 (.mv (ci 0))]) ( .seq (.seq (.region 0 [oS 20 (.load (some 4) (tm 1)),oS 21 (.call
 (.func 38) [(tm 20)]),oS 4 (.mv (tm 21))]) ( .seq (.region 0 [oS 22 (.mv (tm 4)),oS 23 (.bin .neq (tm 22) (ci 0))]) ( .cond (tm 23) ( .seq (.region 0 [oS 24 (.build [(.slice none 0 0)] []),oS 25 (.mv
 (tm 4)),oN (.store 1 (tm 2) (tm 24)),oS 3 (.mv (tm 25))]) ( .ret)) ( .skip)))) ( .seq (.region 0 [oS 26 (.load (some 4) (tm 1)),oS 27 (.call (.func 35) [(tm 26)]),oS 5 (.mv (tm 27))]) ( .seq (.region
 1 [oS 28 (.mv (tm 5)),oS 29 (.call (.func 36) [(tm 28)]),oS 6 (.alloc 79 [(.int .i64 0),(.int .i64 0)]),oN (.store 2 (tm 6) (tm 29))]) ( .seq (.region 2 [oS 31 (.mv (tm 5)),oS 32 (.call (.func 39)
 [(tm 31)]),oS 30 (.mv (tm 32)),oS 33 (.extr (tm 30) 0),oS 34 (.extr (tm 30) 1),oS 7 (.alloc 89 [(.int .i64 0),(.int .i64 0)]),oS 8 (.alloc 79 [(.int .i64 0),(.int .i64 0)]),oN (.store 2 (tm 7) (tm
 33)),oN (.store 2 (tm 8) (tm 34))]) ( .seq (.region 2 [oS 35 (.mkmap),oS 36 (.load (some 2) (tm 7)),oS 37 (.load (some 2) (tm 8)),oN (.mset [(.int .i64),(.int .i64)] true (tm 35) (tm 36) (tm 37)),oS
 38 (.mv (tm 35)),oS 9 (.alloc 92 [(.map none)]),oN (.store 1 (tm 9) (tm 38))]) ( .seq (.region 1 [oS 10 (.alloc 48 [(.slice none 0 0)])]) ( .seq (.seq (.region 0 [oS 39 (.mv (tm 5)),oS 40 (.call
 (.func 40) [(tm 39)]),oS 41 (.bin .add (tm 40) (ci 1)),oS 42 (.mv (ci 0))]) ( .block 0 ( .loop ( .seq (.region 0 [oS 43 (.bin .lss (tm 42) (tm 41))]) ( .seq (.cond (tm 43) ( .skip) ( .exit 0)) ( .seq
 (.block 1 ( .seq (.region 0 [oS 44 (.mv (tm 42)),oS 11 (.mv (tm 44))]) ( .seq (.region 0 [oS 12 (.mv (.const (.int .i64 (-1))))]) ( .block 2 ( .loop ( .seq (.seq (.region 0 [oS 45 (.mv (tm 12)),oS 46
 (.fldA 2 (tm 1)),oS 47 (.load none (tm 46)),oS 48 (.ln (tm 47)),oS 49 (.bin .lss (tm 45) (tm 48))]) ( .cond (tm 49) ( .skip) ( .exit 2))) ( .seq (.block 3 ( .seq (.region 1 [oS 52 (.mv (tm 11)),oS 53
 (.mv (tm 12)),oS 54 (.build [(.int .i64 0),(.int .i64 0)] [(0,1,(tm 52)),(1,1,(tm 53))]),oS 13 (.alloc 89 [(.int .i64 0),(.int .i64 0)]),oN (.store 2 (tm 13) (tm 54))]) ( .seq (.region 1 [oS 56
 (.load none (tm 9)),oS 57 (.load (some 2) (tm 13)),oS 58 (.look [(.int .i64),(.int .i64)] true (.agg #[(.int .i64 0),(.int .i64 0)]) true (tm 56) (tm 57)),oS 55 (.mv (tm 58)),oS 59 (.extr (tm 55)
 0),oS 60 (.extr (tm 55) 1),oS 14 (.alloc 79 [(.int .i64 0),(.int .i64 0)]),oN (.store 2 (tm 14) (tm 59)),oS 15 (.mv (tm 60))]) ( .seq (.seq (.region 0 [oS 61 (.mv (tm 15)),oS 62 (.un .not (tm 61))])
 ( .cond (tm 62) ( .exit 3) ( .skip))) ( .seq (.seq (.region 0 [oS 63 (.load (some 2) (tm 14)),oS 64 (.load (some 2) (tm 6)),oS 65 (.call (.func 41) [(tm 63),(tm 64)])]) ( .cond (tm 65) ( .region 2
 [oS 66 (.fldA 0 (tm 10)),oS 67 (.load none (tm 66)),oS 68 (.mv (tm 11)),oS 69 (.mv (tm 12)),oS 70 (.idxA (some 2) 1 (tm 14) (ci 0)),oS 71 (.load none (tm 70)),oS 72 (.idxA (some 2) 1 (tm 14) (ci
 1)),oS 73 (.load none (tm 72)),oS 74 (.build [(.int .i64 0),(.int .i64 0),(.int .i64 0),(.int .i64 0)] [(0,1,(tm 68)),(1,1,(tm 69)),(2,1,(tm 71)),(3,1,(tm 73))]),oS 75 (.bslice 97 4 [(.int .i64
 0),(.int .i64 0),(.int .i64 0),(.int .i64 0)] 1 [(0,4,(tm 74))]),oS 76 (.app 97 4 32 [(.int .i64 0),(.int .i64 0),(.int .i64 0),(.int .i64 0)] (tm 67) (tm 75)),oS 77 (.fldA 0 (tm 10)),oN (.store 1
 (tm 77) (tm 76))]) ( .skip))) ( .seq (.region 0 [oS 78 (.mv (tm 5)),oS 79 (.load (some 2) (tm 13)),oS 80 (.call (.func 42) [(tm 78),(tm 79)])]) ( .block 4 ( .rangeF (tm 80) [81] (.region 1 [oS 16
 (.alloc 101 [(.int .i64 0),(.int .i64 0),(.int .i64 0),(.int .i64 0),(.int .i64 0)]),oN (.store 5 (tm 16) (tm 81))]) (.block 5 ( .seq (.region 1 [oS 82 (.load (some 2) (tm 14)),oS 83 (.fldA 3 (tm
 16)),oS 84 (.load (some 2) (tm 83)),oS 85 (.call (.func 43) [(tm 82),(tm 84)]),oS 17 (.alloc 79 [(.int .i64 0),(.int .i64 0)]),oN (.store 2 (tm 17) (tm 85))]) ( .seq (.region 1 [oS 87 (.load none (tm
 9)),oS 88 (.fldA 1 (tm 16)),oS 89 (.load (some 2) (tm 88)),oS 90 (.look [(.int .i64),(.int .i64)] true (.agg #[(.int .i64 0),(.int .i64 0)]) true (tm 87) (tm 89)),oS 86 (.mv (tm 90)),oS 91 (.extr (tm
 86) 0),oS 92 (.extr (tm 86) 1),oS 18 (.alloc 79 [(.int .i64 0),(.int .i64 0)]),oN (.store 2 (tm 18) (tm 91)),oS 19 (.mv (tm 92))]) ( .seq (.region 0 [oS 93 (.mv (tm 19)),oS 94 (.un .not (tm 93)),oS
 95 (.mv (tm 94)),oG 96 (.load (some 2) (tm 17)) 95 false,oG 97 (.load (some 2) (tm 18)) 95 false,oG 98 (.call (.func 41) [(tm 96),(tm 97)]) 95 false,oS 99 (.pick (tm 95) (.const (.bool true)) (tm
 98))]) ( .cond (tm 99) ( .region 0 [oS 100 (.load none (tm 9)),oS 101 (.fldA 1 (tm 16)),oS 102 (.load (some 2) (tm 101)),oS 103 (.load (some 2) (tm 17)),oN (.mset [(.int .i64),(.int .i64)] true (tm
 100) (tm 102) (tm 103))]) ( .skip)))))))))))))) ( .region 0 [oS 50 (.mv (tm 12)),oS 51 (.bin .add (tm 50) (ci 1)),oS 12 (.mv (tm 51))])))))))) ( .region 0 [oS 104 (.bin .add (tm 42) (ci 1)),oS 42
 (.mv (tm 104))]))))))) ( .seq (.region 0 [oS 105 (.load (some 1) (tm 10)),oN (.store 1 (tm 2) (tm 105)),oS 3 (.mv (ci 0))]) ( .ret)))))))))⟩
def f15 : IFn:=⟨26,[.tmp 4],.seq (.region 0 [oS 4 (.mv (.const (.bool false)))]) ( .seq (.seq (.region 0 [oS 6 (.mv (tm 0)),oS 7 (.ln (tm 6)),oS 8 (.mv (tm 1)),oS 9 (.ln (tm 8)),oS 10 (.bin .neq (tm 7) (tm 9))]) (
 .cond (tm 10) ( .seq (.region 0 [oS 4 (.mv (.const (.bool false)))]) ( .ret)) ( .skip))) ( .seq (.seq (.region 0 [oS 5 (.mv (ci 0))]) ( .block 0 ( .loop ( .seq (.seq (.region 0 [oS 11 (.mv (tm 5)),oS
 12 (.mv (tm 0)),oS 13 (.ln (tm 12)),oS 14 (.bin .lss (tm 11) (tm 13))]) ( .cond (tm 14) ( .skip) ( .exit 0))) ( .seq (.block 1 ( .seq (.draw 0 [⟨0,0,0,oS 17 (.mv (tm 0)),none⟩,⟨1,0,0,oS 18 (.mv (tm
 5)),none⟩,⟨2,0,3,oS 19 (.idxA none 1 (tm 17) (tm 18)),none⟩,⟨3,0,7,oS 20 (.load none (tm 19)),none⟩,⟨4,0,0,oS 21 (.mv (tm 1)),none⟩,⟨5,0,0,oS 22 (.mv (tm 5)),none⟩,⟨6,0,48,oS 23 (.idxA none 1 (tm 21)
 (tm 22)),none⟩,⟨7,0,112,oS 24 (.load none (tm 23)),none⟩,⟨8,0,255,oS 25 (.bin .neq (tm 20) (tm 24)),none⟩]) ( .cond (tm 25) ( .seq (.region 0 [oS 4 (.mv (.const (.bool false)))]) ( .ret)) ( .skip))))
 ( .region 0 [oS 15 (.mv (tm 5)),oS 16 (.bin .add (tm 15) (ci 1)),oS 5 (.mv (tm 16))])))))) ( .seq (.region 0 [oS 4 (.mv (.const (.bool true)))]) ( .ret))))⟩
def f16 : IFn:=⟨36,[.tmp 4,.tmp 5,.tmp 6],.seq (.region 1 [oS 2 (.box 41 (tm 0)),oS 4 (.mv (ci 0)),oS 5 (.mv (ci 0)),oS 6 (.mv (ci 0))]) ( .seq (.region 0 [oS 10 (.load (some 4) (tm 2)),oS 11 (.mv (tm 1)),oS 12
 (.call (.func 33) [(tm 10),(tm 11)]),oS 9 (.mv (tm 12)),oS 13 (.extr (tm 9) 0),oS 14 (.extr (tm 9) 1),oS 7 (.mv (tm 13)),oS 6 (.mv (tm 14))]) ( .seq (.block 0 ( .seq (.region 0 [oS 16 (.mv (tm 6)),oS
 17 (.bin .neq (tm 16) (ci 0)),oS 15 (.mv (tm 17))]) ( .cond (tm 15) ( .seq (.region 0 [oS 18 (.mv (tm 6)),oS 4 (.mv (ci 0)),oS 5 (.mv (ci 0)),oS 6 (.mv (tm 18))]) ( .ret)) ( .seq (.region 0 [oS 20
 (.fldA 0 (tm 2)),oS 21 (.fldA 0 (tm 20)),oS 22 (.load none (tm 21)),oS 23 (.mv (tm 1)),oS 24 (.call (.func 44) [(tm 22),(tm 23)]),oS 25 (.bin .neq (tm 24) (ci 0)),oS 19 (.mv (tm 25))]) ( .cond (tm
 19) ( .seq (.region 0 [oS 4 (.mv (ci 0)),oS 5 (.mv (ci 0)),oS 6 (.mv (ci 1))]) ( .ret)) ( .seq (.region 0 [oS 27 (.mv (tm 7)),oS 28 (.un .not (tm 27)),oS 26 (.mv (tm 28))]) ( .cond (tm 26) ( .seq
 (.region 0 [oS 4 (.mv (ci 0)),oS 5 (.mv (ci 0)),oS 6 (.mv (ci 70))]) ( .ret)) ( .skip)))))))) ( .seq (.region 1 [oS 29 (.load (some 4) (tm 2)),oS 30 (.mv (tm 1)),oS 31 (.call (.func 34) [(tm 29),(tm
 30)]),oS 8 (.alloc 79 [(.int .i64 0),(.int .i64 0)]),oN (.store 2 (tm 8) (tm 31))]) ( .seq (.draw 0 [⟨0,0,0,oS 32 (.idxA (some 2) 1 (tm 8) (ci 0)),none⟩,⟨1,0,1,oS 33 (.load none (tm
 32)),none⟩,⟨2,0,0,oS 34 (.idxA (some 2) 1 (tm 8) (ci 1)),none⟩,⟨3,0,4,oS 35 (.load none (tm 34)),none⟩,⟨4,0,3,oS 4 (.mv (tm 33)),none⟩,⟨5,0,31,oS 5 (.mv (tm 35)),none⟩,⟨6,0,63,oS 6 (.mv (ci
 0)),none⟩]) ( .ret)))))⟩
def f17 : IFn:=⟨18,[.tmp 2,.tmp 3],.seq (.region 1 [oS 1 (.box 41 (tm 0)),oS 2 (.mv (ci 0)),oS 3 (.mv (ci 0))]) ( .seq (.seq (.region 0 [oS 6 (.load (some 4) (tm 1)),oS 7 (.call (.func 38) [(tm 6)]),oS 4 (.mv (tm
 7))]) ( .seq (.region 0 [oS 8 (.mv (tm 4)),oS 9 (.bin .neq (tm 8) (ci 0))]) ( .cond (tm 9) ( .seq (.region 0 [oS 10 (.mv (tm 4)),oS 2 (.mv (ci 0)),oS 3 (.mv (tm 10))]) ( .ret)) ( .skip)))) ( .seq
 (.region 1 [oS 5 (.alloc 3 [(.int .i64 0)]),oN (.store 1 (tm 5) (ci 0))]) ( .seq (.seq (.region 0 [oS 11 (.load (some 4) (tm 1)),oS 12 (.call (.func 35) [(tm 11)]),oS 13 (.call (.func 45) [(tm
 12)])]) ( .block 0 ( .rangeF (tm 13) [14] (.skip) (.block 1 ( .region 0 [oS 15 (.load none (tm 5)),oS 16 (.bin .add (tm 15) (ci 1)),oN (.store 1 (tm 5) (tm 16))]))))) ( .seq (.region 0 [oS 17 (.load
 none (tm 5)),oS 2 (.mv (tm 17)),oS 3 (.mv (ci 0))]) ( .ret)))))⟩
def f18 : IFn:=⟨101,[.tmp 4,.tmp 5],.seq (.region 0 [oS 4 (.mv (.const (.slice none 0 0))),oS 5 (.mv (ci 0))]) ( .seq (.seq (.region 1 [oS 16 (.mv (tm 0)),oS 17 (.mv (tm 1)),oS 18 (.bslice 25 1 [(.slice none 0
 0),(.slice none 0 0)] 2 [(0,1,(tm 16)),(1,1,(tm 17))]),oS 19 (.call (.func 46) [(tm 18)]),oS 6 (.mv (tm 19))]) ( .seq (.region 0 [oS 20 (.mv (tm 6)),oS 21 (.bin .neq (tm 20) (ci 0))]) ( .cond (tm 21)
 ( .seq (.region 0 [oS 22 (.mv (tm 6)),oS 4 (.mv (.const (.slice none 0 0))),oS 5 (.mv (tm 22))]) ( .ret)) ( .skip)))) ( .seq (.region 0 [oS 23 (.mv (tm 0)),oS 24 (.call (.func 25) [(tm 23)]),oS 7
 (.mv (tm 24))]) ( .seq (.region 0 [oS 8 (.mv (.const (.slice none 0 0)))]) ( .seq (.seq (.region 0 [oS 25 (.mv (tm 0)),oS 26 (.ln (tm 25)),oS 27 (.mv (ci 0))]) ( .block 0 ( .loop ( .seq (.region 0
 [oS 28 (.bin .lss (tm 27) (tm 26))]) ( .seq (.cond (tm 28) ( .skip) ( .exit 0)) ( .seq (.block 1 ( .seq (.region 0 [oS 29 (.idxA none 1 (tm 25) (tm 27)),oS 30 (.load none (tm 29)),oS 10 (.mv (tm
 30))]) ( .seq (.region 0 [oS 31 (.mv (tm 1)),oS 32 (.mv (tm 10)),oS 33 (.call (.func 47) [(tm 31),(tm 32)]),oS 34 (.un .not (tm 33))]) ( .cond (tm 34) ( .seq (.region 0 [oS 35 (.mv (tm 7)),oS 36 (.mv
 (tm 10)),oS 37 (.call (.func 48) [(tm 35),(tm 36)]),oS 11 (.mv (tm 37))]) ( .seq (.region 2 [oS 38 (.mv (tm 8)),oS 39 (.mv (tm 10)),oS 40 (.mv (tm 11)),oS 41 (.build [(.int .i64 0),(.int .i64
 0),(.int .i64 0)] [(0,1,(tm 39)),(1,1,(tm 40)),(2,1,(.const (.int .i64 (-1))))]),oS 42 (.bslice 60 3 [(.int .i64 0),(.int .i64 0),(.int .i64 0)] 1 [(0,3,(tm 41))]),oS 43 (.app 60 3 24 [(.int .i64
 0),(.int .i64 0),(.int .i64 0)] (tm 38) (tm 42)),oS 8 (.mv (tm 43))]) ( .region 0 [oS 44 (.mv (tm 7)),oS 45 (.mv (tm 11)),oS 46 (.mv (tm 11)),oS 47 (.bin .add (tm 46) (ci 1)),oS 48 (.call (.func 49)
 [(tm 44),(tm 45),(tm 47)]),oS 7 (.mv (tm 48))]))) ( .skip))))) ( .region 0 [oS 49 (.bin .add (tm 27) (ci 1)),oS 27 (.mv (tm 49))]))))))) ( .seq (.region 0 [oS 50 (.mv (tm 0)),oS 51 (.mv (tm 1)),oS 52
 (.call (.func 50) [(tm 50),(tm 51)]),oS 12 (.mv (tm 52))]) ( .seq (.seq (.region 0 [oS 53 (.mv (tm 1)),oS 54 (.ln (tm 53)),oS 55 (.mv (ci 0))]) ( .block 2 ( .loop ( .seq (.region 0 [oS 56 (.bin .lss
 (tm 55) (tm 54))]) ( .seq (.cond (tm 56) ( .skip) ( .exit 2)) ( .seq (.block 3 ( .seq (.region 0 [oS 57 (.mv (tm 55)),oS 58 (.idxA none 1 (tm 53) (tm 55)),oS 59 (.load none (tm 58)),oS 13 (.mv (tm
 57)),oS 14 (.mv (tm 59))]) ( .seq (.seq (.region 0 [oS 60 (.mv (tm 12)),oS 61 (.mv (tm 14)),oS 62 (.call (.func 47) [(tm 60),(tm 61)])]) ( .cond (tm 62) ( .exit 3) ( .skip))) ( .seq (.region 1 [oS 63
 (.mv (tm 14)),oS 64 (.mv (tm 7)),oS 65 (.mv (tm 14)),oS 66 (.call (.func 48) [(tm 64),(tm 65)]),oS 67 (.build [(.int .i64 0),(.int .i64 0),(.int .i64 0)] [(0,1,(tm 63)),(1,1,(tm 66))]),oS 15 (.alloc
 60 [(.int .i64 0),(.int .i64 0),(.int .i64 0)]),oN (.store 3 (tm 15) (tm 67))]) ( .seq (.seq (.region 0 [oS 68 (.fldA 1 (tm 15)),oS 69 (.load none (tm 68)),oS 70 (.bin .geq (tm 69) (ci 0))]) ( .cond
 (tm 70) ( .region 0 [oS 71 (.mv (tm 7)),oS 72 (.fldA 1 (tm 15)),oS 73 (.load none (tm 72)),oS 74 (.fldA 1 (tm 15)),oS 75 (.load none (tm 74)),oS 76 (.bin .add (tm 75) (ci 1)),oS 77 (.call (.func 49)
 [(tm 71),(tm 73),(tm 76)]),oS 7 (.mv (tm 77))]) ( .skip))) ( .seq (.seq (.region 0 [oS 78 (.mv (tm 13)),oS 79 (.bin .gtr (tm 78) (ci 0))]) ( .cond (tm 79) ( .region 0 [oS 80 (.mv (tm 7)),oS 81 (.mv
 (tm 1)),oS 82 (.mv (tm 13)),oS 83 (.bin .sub (tm 82) (ci 1)),oS 84 (.idxA none 1 (tm 81) (tm 83)),oS 85 (.load none (tm 84)),oS 86 (.call (.func 48) [(tm 80),(tm 85)]),oS 87 (.bin .add (tm 86) (ci
 1)),oS 88 (.fldA 2 (tm 15)),oN (.store 1 (tm 88) (tm 87))]) ( .skip))) ( .seq (.region 1 [oS 89 (.mv (tm 7)),oS 90 (.fldA 2 (tm 15)),oS 91 (.load none (tm 90)),oS 92 (.mv (tm 14)),oS 93 (.bslice 3 1
 [(.int .i64 0)] 1 [(0,1,(tm 92))]),oS 94 (.call (.func 51) [(tm 89),(tm 91),(tm 93)]),oS 7 (.mv (tm 94))]) ( .region 2 [oS 95 (.mv (tm 8)),oS 96 (.load (some 3) (tm 15)),oS 97 (.bslice 60 3 [(.int
 .i64 0),(.int .i64 0),(.int .i64 0)] 1 [(0,3,(tm 96))]),oS 98 (.app 60 3 24 [(.int .i64 0),(.int .i64 0),(.int .i64 0)] (tm 95) (tm 97)),oS 8 (.mv (tm 98))])))))))) ( .region 0 [oS 99 (.bin .add (tm
 55) (ci 1)),oS 55 (.mv (tm 99))]))))))) ( .seq (.region 0 [oS 100 (.mv (tm 8)),oS 4 (.mv (tm 100)),oS 5 (.mv (ci 0))]) ( .ret))))))))⟩
def f20 : IFn:=⟨14,[],.seq (.region 0 [oS 5 (.recover)]) ( .block 0 ( .seq (.region 0 [oS 7 (.eqn .iface false (tm 5) (.const .nilIface))]) ( .cond (tm 7) ( .region 0 [oS 2 (.mv (tm 5))]) ( .seq (.region 0 [oS 8
 (.tassert 112 (.int .i64 0) true (tm 5)),oS 9 (.extr (tm 8) 1),oS 10 (.extr (tm 8) 0)]) ( .cond (tm 9) ( .seq (.region 0 [oS 3 (.mv (tm 10))]) ( .region 0 [oS 11 (.mv (tm 0)),oS 12 (.mv (tm 3)),oS 13
 (.nilc (tm 11)),oN (.store 1 (tm 13) (tm 12))])) ( .seq (.region 0 [oS 4 (.mv (tm 5))]) ( .region 0 [oS 6 (.mv (tm 4)),oN (.panic (tm 6))])))))))⟩
def f21 : IFn:=⟨28,[.tmp 8],.seq (.region 1 [oS 4 (.box 24 (tm 0)),oS 8 (.mv (.const (.pointer none)))]) ( .seq (.region 0 [oS 9 (.load (some 2) (tm 4)),oS 10 (.call (.func 53) [(tm 9)]),oS 11 (.call (.func 52) [(tm
 10)])]) ( .seq (.region 0 [oS 12 (.fldA 0 (tm 4)),oS 13 (.load none (tm 12)),oS 14 (.mv (tm 1)),oS 15 (.call (.func 44) [(tm 13),(tm 14)]),oS 16 (.bin .eql (tm 15) (ci 0)),oS 17 (.call (.func 54)
 [(tm 16),(ci 1)])]) ( .seq (.region 0 [oS 18 (.mv (tm 2)),oS 19 (.ln (tm 18)),oS 20 (.bin .leq (tm 19) (ci 200)),oS 21 (.call (.func 54) [(tm 20),(ci 2)])]) ( .seq (.draw 1 [⟨0,0,0,oS 22 (.load (some
 2) (tm 4)),none⟩,⟨1,0,0,oS 23 (.mv (tm 1)),none⟩,⟨3,0,0,oS 25 (.mv (tm 3)),none⟩,⟨2,0,2,oS 24 (.call (.func 25) [(tm 23)]),none⟩,⟨4,0,15,oS 26 (.build [(.int .i64 0),(.slice none 0 0),(.slice none 0
 0),(.int .i64 0),.nilFunc] [(0,2,(tm 22)),(2,1,(tm 24)),(4,1,(tm 25))]),none⟩,⟨5,0,31,oS 27 (.box 70 (tm 26)),none⟩,⟨6,1,63,oS 8 (.mv (tm 27)),none⟩]) ( .ret)))))⟩
def f23 : IFn:=⟨29,[.cell 2 (some 4)],.seq (.region 2 [oS 1 (.box 41 (tm 0)),oS 2 (.alloc 43 [(.slice none 0 0),(.int .i64 0),(.int .i64 0),(.slice none 0 0)])]) ( .seq (.region 1 [oS 3 (.alloc 43 [(.slice none 0
 0),(.int .i64 0),(.int .i64 0),(.slice none 0 0)])]) ( .seq (.region 0 [oS 7 (.load (some 4) (tm 1)),oS 8 (.call (.func 35) [(tm 7)]),oS 4 (.mv (tm 8))]) ( .seq (.seq (.region 0 [oS 9 (.mv (tm 4)),oS
 10 (.call (.func 45) [(tm 9)])]) ( .block 0 ( .rangeF (tm 10) [11] (.region 0 [oS 5 (.mv (tm 11))]) (.block 1 ( .seq (.region 0 [oS 12 (.mv (tm 5)),oS 13 (.fldA 0 (tm 3)),oN (.store 1 (tm 13) (tm
 12))]) ( .exit 0)))))) ( .seq (.region 1 [oS 14 (.mv (tm 4)),oS 15 (.call (.func 36) [(tm 14)]),oS 6 (.alloc 79 [(.int .i64 0),(.int .i64 0)]),oN (.store 2 (tm 6) (tm 15))]) ( .seq (.draw 0
 [⟨0,0,0,oS 16 (.idxA (some 2) 1 (tm 6) (ci 0)),none⟩,⟨1,0,1,oS 17 (.load none (tm 16)),none⟩,⟨2,0,0,oS 18 (.idxA (some 2) 1 (tm 6) (ci 1)),none⟩,⟨3,0,4,oS 19 (.load none (tm 18)),none⟩,⟨4,0,0,oS 20
 (.fldA 2 (tm 1)),none⟩,⟨5,0,16,oS 21 (.load none (tm 20)),none⟩,⟨6,0,0,oS 22 (.fldA 0 (tm 3)),none⟩,⟨7,0,64,oS 23 (.load none (tm 22)),none⟩,⟨9,0,195,oS 25 (.fldA 1 (tm 3)),none⟩,⟨8,0,240,oS 24
 (.call (.func 50) [(tm 21),(tm 23)]),none⟩,⟨10,0,1011,oN (.store 1 (tm 25) (tm 17)),none⟩,⟨11,0,2047,oS 26 (.fldA 2 (tm 3)),none⟩,⟨12,0,4095,oN (.store 1 (tm 26) (tm 19)),none⟩,⟨13,0,8191,oS 27
 (.fldA 3 (tm 3)),none⟩,⟨14,0,16383,oN (.store 1 (tm 27) (tm 24)),none⟩]) ( .seq (.region 0 [oS 28 (.load (some 4) (tm 3)),oN (.store 4 (tm 2) (tm 28))]) ( .ret)))))))⟩
def f24 : IFn:=⟨26,[],.seq (.region 1 [oS 3 (.box 38 (tm 1))]) ( .seq (.region 1 [oS 6 (.mkmap),oS 7 (.mv (tm 0)),oS 8 (.mkfn (.func 55) [(tm 7)] []),oN (.mset [(.int .u8)] false (tm 6) (.const (.int .u8 1)) (tm
 8)),oS 9 (.mv (tm 0)),oS 10 (.mkfn (.func 56) [(tm 9)] []),oN (.mset [(.int .u8)] false (tm 6) (.const (.int .u8 2)) (tm 10)),oS 11 (.mv (tm 0)),oS 12 (.mkfn (.func 57) [(tm 11)] []),oN (.mset [(.int
 .u8)] false (tm 6) (.const (.int .u8 3)) (tm 12)),oS 13 (.mv (tm 0)),oS 14 (.mkfn (.func 58) [(tm 13)] []),oN (.mset [(.int .u8)] false (tm 6) (.const (.int .u8 4)) (tm 14)),oS 15 (.mv (tm 6)),oS 4
 (.mv (tm 15))]) ( .seq (.region 0 [oS 16 (.mv (tm 4)),oS 17 (.fldA 0 (tm 3)),oS 18 (.load none (tm 17)),oS 19 (.look [(.int .u8)] false .nilFunc false (tm 16) (tm 18)),oS 5 (.mv (tm 19))]) ( .seq
 (.region 0 [oS 20 (.mv (tm 5)),oS 21 (.eqn .func true (tm 20) (.const .nilFunc)),oS 22 (.call (.func 54) [(tm 21),(ci 1)])]) ( .region 0 [oS 23 (.mv (tm 5)),oS 24 (.load (some 4) (tm 3)),oS 25 (.call
 (tm 23) [(tm 24)])]))))⟩
def f25 : IFn:=⟨8,[.tmp 2],.seq (.region 0 [oS 2 (.mv (.const (.slice none 0 0)))]) ( .seq (.seq (.region 0 [oS 3 (.mv (tm 0)),oS 4 (.eqn .slice false (tm 3) (.const (.slice none 0 0)))]) ( .cond (tm 4) ( .seq
 (.region 0 [oS 2 (.mv (.const (.slice none 0 0)))]) ( .ret)) ( .skip))) ( .seq (.region 2 [oS 5 (.bslice 3 1 [] 0 []),oS 6 (.mv (tm 0)),oS 7 (.app 3 1 8 [(.int .i64 0)] (tm 5) (tm 6)),oS 2 (.mv (tm
 7))]) ( .ret)))⟩
def f26 : IFn:=⟨23,[.tmp 6],.seq (.region 1 [oS 3 (.box 24 (tm 0)),oS 6 (.mv (ci 0))]) ( .seq (.region 0 [oS 9 (.load (some 2) (tm 3)),oS 10 (.call (.func 59) [(tm 9)]),oS 7 (.mv (tm 10))]) ( .seq (.seq (.region 0
 [oS 11 (.mv (tm 7)),oS 12 (.bin .neq (tm 11) (ci 0))]) ( .cond (tm 12) ( .seq (.region 0 [oS 13 (.mv (tm 7)),oS 6 (.mv (tm 13))]) ( .ret)) ( .skip))) ( .seq (.region 0 [oS 14 (.mv (tm 1)),oS 15
 (.fldA 0 (tm 3)),oS 16 (.load none (tm 15)),oS 17 (.call (.func 60) [(tm 14),(tm 16)]),oS 8 (.mv (tm 17))]) ( .seq (.seq (.region 0 [oS 18 (.mv (tm 8)),oS 19 (.un .not (tm 18))]) ( .cond (tm 19) (
 .seq (.region 0 [oS 6 (.mv (ci 1))]) ( .ret)) ( .skip))) ( .seq (.seq (.region 0 [oS 20 (.mv (tm 2)),oS 21 (.ln (tm 20)),oS 22 (.bin .gtr (tm 21) (ci 200))]) ( .cond (tm 22) ( .seq (.region 0 [oS 6
 (.mv (ci 2))]) ( .ret)) ( .skip))) ( .seq (.region 0 [oS 6 (.mv (ci 0))]) ( .ret)))))))⟩
def f27 : IFn:=⟨145,[.cell 4 (some 4),.tmp 5],.seq (.region 3 [oS 2 (.box 73 (tm 0)),oS 3 (.box 38 (tm 1)),oS 4 (.alloc 73 [(.int .i64 0),(.slice none 0 0),(.slice none 0 0),(.int .i64 0)]),oS 5 (.mv (ci 0))]) (
 .seq (.seq (.region 0 [oS 16 (.fldA 0 (tm 3)),oS 17 (.load none (tm 16))]) ( .block 0 ( .seq (.region 0 [oS 19 (.bin .eql (tm 17) (.const (.int .u8 1))),oS 18 (.mv (tm 19))]) ( .cond (tm 18) ( .seq
 (.seq (.region 0 [oS 20 (.fldA 3 (tm 2)),oS 21 (.load none (tm 20)),oS 22 (.fldA 0 (tm 2)),oS 23 (.fldA 0 (tm 22)),oS 24 (.load none (tm 23)),oS 25 (.bin .geq (tm 21) (tm 24))]) ( .cond (tm 25) (
 .seq (.region 0 [oS 26 (.build [(.int .i64 0),(.slice none 0 0),(.slice none 0 0),(.int .i64 0)] []),oN (.store 4 (tm 4) (tm 26)),oS 5 (.mv (ci 5))]) ( .ret)) ( .skip))) ( .seq (.region 0 [oS 27
 (.fldA 0 (tm 2)),oS 28 (.load (some 2) (tm 27)),oS 29 (.fldA 2 (tm 2)),oS 30 (.load none (tm 29)),oS 31 (.fldA 3 (tm 2)),oS 32 (.load none (tm 31)),oS 33 (.bin .add (tm 32) (ci 1)),oS 34 (.build
 [(.int .i64 0),(.slice none 0 0),(.slice none 0 0),(.int .i64 0)] [(0,2,(tm 28)),(2,1,(tm 30)),(3,1,(tm 33))]),oN (.store 4 (tm 4) (tm 34)),oS 5 (.mv (ci 0))]) ( .ret))) ( .seq (.region 0 [oS 36
 (.bin .eql (tm 17) (.const (.int .u8 2))),oS 35 (.mv (tm 36))]) ( .cond (tm 35) ( .seq (.seq (.region 0 [oS 37 (.fldA 1 (tm 3)),oS 38 (.load none (tm 37)),oS 39 (.bin .lss (tm 38) (ci 0)),oS 40 (.mv
 (tm 39)),oG 41 (.fldA 1 (tm 3)) 40 false,oG 42 (.load none (tm 41)) 40 false,oG 43 (.fldA 0 (tm 2)) 40 false,oG 44 (.fldA 0 (tm 43)) 40 false,oG 45 (.load none (tm 44)) 40 false,oG 46 (.bin .geq (tm
 42) (tm 45)) 40 false,oS 47 (.pick (tm 40) (.const (.bool true)) (tm 46))]) ( .cond (tm 47) ( .seq (.region 0 [oS 48 (.build [(.int .i64 0),(.slice none 0 0),(.slice none 0 0),(.int .i64 0)] []),oN
 (.store 4 (tm 4) (tm 48)),oS 5 (.mv (ci 1))]) ( .ret)) ( .skip))) ( .seq (.draw 0 [⟨0,0,0,oS 49 (.fldA 2 (tm 2)),none⟩,⟨1,0,1,oS 50 (.load none (tm 49)),none⟩,⟨2,0,0,oS 51 (.fldA 3 (tm
 2)),none⟩,⟨3,0,4,oS 52 (.load none (tm 51)),none⟩,⟨4,0,15,oS 53 (.slc 3 1 (tm 50) none (some (tm 52)) none),none⟩,⟨5,0,0,oS 54 (.fldA 1 (tm 3)),none⟩,⟨6,0,32,oS 55 (.load none (tm
 54)),none⟩,⟨7,0,127,oS 56 (.call (.func 61) [(tm 53),(tm 55)]),none⟩,⟨8,0,255,oS 6 (.mv (tm 56)),none⟩]) ( .seq (.seq (.region 0 [oS 57 (.mv (tm 6))]) ( .cond (tm 57) ( .seq (.region 0 [oS 58 (.build
 [(.int .i64 0),(.slice none 0 0),(.slice none 0 0),(.int .i64 0)] []),oN (.store 4 (tm 4) (tm 58)),oS 5 (.mv (ci 70))]) ( .ret)) ( .skip))) ( .seq (.draw 1 [⟨0,0,0,oS 60 (.fldA 0 (tm
 2)),none⟩,⟨1,0,1,oS 61 (.load (some 2) (tm 60)),none⟩,⟨2,0,0,oS 62 (.fldA 0 (tm 2)),none⟩,⟨3,0,4,oS 63 (.fldA 0 (tm 62)),none⟩,⟨4,0,12,oS 64 (.load none (tm 63)),none⟩,⟨5,0,0,oS 65 (.fldA 1 (tm
 3)),none⟩,⟨6,0,32,oS 66 (.load none (tm 65)),none⟩,⟨12,0,0,oS 7 (.alloc 24 [(.int .i64 0),(.slice none 0 0)]),none⟩,⟨7,0,124,oS 67 (.call (.func 63) [(tm 64),(tm 66)]),none⟩,⟨8,0,255,oS 68 (.call
 (.func 62) [(tm 61),(tm 67)]),none⟩,⟨9,0,511,oS 59 (.mv (tm 68)),none⟩,⟨10,0,1023,oS 69 (.extr (tm 59) 0),none⟩,⟨11,0,1023,oS 70 (.extr (tm 59) 1),none⟩,⟨13,1,6143,oN (.store 2 (tm 7) (tm
 69)),none⟩,⟨14,1,16383,oS 8 (.mv (tm 70)),none⟩]) ( .seq (.region 0 [oS 9 (.mv (.const (.slice none 0 0)))]) ( .seq (.seq (.region 0 [oS 10 (.mv (ci 0))]) ( .block 1 ( .loop ( .seq (.seq (.region 0
 [oS 71 (.mv (tm 10)),oS 72 (.fldA 2 (tm 2)),oS 73 (.load none (tm 72)),oS 74 (.ln (tm 73)),oS 75 (.bin .lss (tm 71) (tm 74))]) ( .cond (tm 75) ( .skip) ( .exit 1))) ( .seq (.block 2 ( .seq (.region 0
 [oS 78 (.fldA 2 (tm 2)),oS 79 (.load none (tm 78)),oS 80 (.mv (tm 10)),oS 81 (.idxA none 1 (tm 79) (tm 80)),oS 82 (.load none (tm 81)),oS 11 (.mv (tm 82))]) ( .seq (.seq (.region 0 [oS 83 (.mv (tm
 11)),oS 84 (.fldA 1 (tm 3)),oS 85 (.load none (tm 84)),oS 86 (.bin .gtr (tm 83) (tm 85))]) ( .cond (tm 86) ( .region 2 [oS 87 (.mv (tm 9)),oS 88 (.mv (tm 11)),oS 89 (.bin .sub (tm 88) (ci 1)),oS 90
 (.bslice 3 1 [(.int .i64 0)] 1 [(0,1,(tm 89))]),oS 91 (.app 3 1 8 [(.int .i64 0)] (tm 87) (tm 90)),oS 9 (.mv (tm 91))]) ( .skip))) ( .seq (.region 0 [oS 92 (.mv (tm 11)),oS 93 (.fldA 1 (tm 3)),oS 94
 (.load none (tm 93)),oS 95 (.bin .lss (tm 92) (tm 94))]) ( .cond (tm 95) ( .region 2 [oS 96 (.mv (tm 9)),oS 97 (.mv (tm 11)),oS 98 (.bslice 3 1 [(.int .i64 0)] 1 [(0,1,(tm 97))]),oS 99 (.app 3 1 8
 [(.int .i64 0)] (tm 96) (tm 98)),oS 9 (.mv (tm 99))]) ( .skip)))))) ( .region 0 [oS 76 (.mv (tm 10)),oS 77 (.bin .add (tm 76) (ci 1)),oS 10 (.mv (tm 77))])))))) ( .seq (.region 1 [oS 100 (.load (some
 2) (tm 7)),oS 101 (.mv (tm 9)),oS 102 (.fldA 3 (tm 2)),oS 103 (.load none (tm 102)),oS 104 (.build [(.int .i64 0),(.slice none 0 0),(.slice none 0 0),(.int .i64 0)] [(0,2,(tm 100)),(2,1,(tm
 101)),(3,1,(tm 103))]),oS 12 (.alloc 73 [(.int .i64 0),(.slice none 0 0),(.slice none 0 0),(.int .i64 0)]),oN (.store 4 (tm 12) (tm 104))]) ( .seq (.draw 0 [⟨0,0,0,oS 105 (.load (some 4) (tm
 12)),none⟩,⟨1,0,0,oS 106 (.load (some 4) (tm 12)),none⟩,⟨2,0,2,oS 107 (.call (.func 29) [(tm 106)]),none⟩,⟨3,0,6,oS 108 (.call (.func 64) [(tm 107)]),none⟩,⟨4,0,15,oN (.store 4 (tm 4) (tm
 105)),none⟩,⟨5,0,31,oS 5 (.mv (tm 108)),none⟩]) ( .ret))))))))) ( .seq (.seq (.region 0 [oS 110 (.bin .eql (tm 17) (.const (.int .u8 3))),oS 109 (.mv (tm 110))]) ( .cond (tm 109) ( .skip) ( .region 0
 [oS 111 (.bin .eql (tm 17) (.const (.int .u8 4))),oS 109 (.mv (tm 111))]))) ( .cond (tm 109) ( .seq (.region 0 [oS 112 (.fldA 2 (tm 3)),oS 113 (.load (some 2) (tm 112)),oS 114 (.call (.func 59) [(tm
 113)]),oS 13 (.mv (tm 114))]) ( .seq (.seq (.region 0 [oS 115 (.mv (tm 13)),oS 116 (.bin .neq (tm 115) (ci 0))]) ( .cond (tm 116) ( .seq (.region 0 [oS 117 (.build [(.int .i64 0),(.slice none 0
 0),(.slice none 0 0),(.int .i64 0)] []),oS 118 (.mv (tm 13)),oN (.store 4 (tm 4) (tm 117)),oS 5 (.mv (tm 118))]) ( .ret)) ( .skip))) ( .seq (.region 0 [oS 119 (.fldA 0 (tm 2)),oS 120 (.fldA 0 (tm
 119)),oS 121 (.load none (tm 120)),oS 14 (.mv (tm 121))]) ( .seq (.seq (.region 0 [oS 122 (.fldA 0 (tm 3)),oS 123 (.load none (tm 122)),oS 124 (.bin .eql (tm 123) (.const (.int .u8 3)))]) ( .cond (tm
 124) ( .region 0 [oS 125 (.mv (tm 14)),oS 126 (.bin .add (tm 125) (ci 1)),oS 14 (.mv (tm 126))]) ( .skip))) ( .seq (.seq (.region 0 [oS 127 (.fldA 2 (tm 3)),oS 128 (.fldA 0 (tm 127)),oS 129 (.load
 none (tm 128)),oS 130 (.mv (tm 14)),oS 131 (.bin .neq (tm 129) (tm 130))]) ( .cond (tm 131) ( .seq (.region 0 [oS 132 (.build [(.int .i64 0),(.slice none 0 0),(.slice none 0 0),(.int .i64 0)] []),oN
 (.store 4 (tm 4) (tm 132)),oS 5 (.mv (ci 1))]) ( .ret)) ( .skip))) ( .seq (.region 1 [oS 133 (.fldA 2 (tm 3)),oS 134 (.load (some 2) (tm 133)),oS 135 (.fldA 2 (tm 2)),oS 136 (.load none (tm 135)),oS
 137 (.fldA 3 (tm 2)),oS 138 (.load none (tm 137)),oS 139 (.build [(.int .i64 0),(.slice none 0 0),(.slice none 0 0),(.int .i64 0)] [(0,2,(tm 134)),(2,1,(tm 136)),(3,1,(tm 138))]),oS 15 (.alloc 73
 [(.int .i64 0),(.slice none 0 0),(.slice none 0 0),(.int .i64 0)]),oN (.store 4 (tm 15) (tm 139))]) ( .seq (.draw 0 [⟨0,0,0,oS 140 (.load (some 4) (tm 15)),none⟩,⟨1,0,0,oS 141 (.load (some 4) (tm
 15)),none⟩,⟨2,0,2,oS 142 (.call (.func 29) [(tm 141)]),none⟩,⟨3,0,6,oS 143 (.call (.func 64) [(tm 142)]),none⟩,⟨4,0,15,oN (.store 4 (tm 4) (tm 140)),none⟩,⟨5,0,31,oS 5 (.mv (tm 143)),none⟩]) (
 .ret)))))))) ( .skip))))))))) ( .seq (.region 0 [oS 144 (.build [(.int .i64 0),(.slice none 0 0),(.slice none 0 0),(.int .i64 0)] []),oN (.store 4 (tm 4) (tm 144)),oS 5 (.mv (ci 1))]) ( .ret)))⟩
def f29 : IFn:=⟨10,[.cell 2 (some 4)],.seq (.region 2 [oS 1 (.box 73 (tm 0)),oS 2 (.alloc 41 [(.int .i64 0),(.slice none 0 0),(.slice none 0 0),(.int .i64 0)])]) ( .seq (.region 0 [oS 3 (.fldA 0 (tm 1)),oS 4 (.load
 (some 2) (tm 3)),oS 5 (.fldA 2 (tm 1)),oS 6 (.load none (tm 5)),oS 7 (.fldA 3 (tm 1)),oS 8 (.load none (tm 7)),oS 9 (.build [(.int .i64 0),(.slice none 0 0),(.slice none 0 0),(.int .i64 0)] [(0,2,(tm
 4)),(2,1,(tm 6)),(3,1,(tm 8))]),oN (.store 4 (tm 2) (tm 9))]) ( .ret))⟩
def f30 : IFn:=⟨7,[],.region 0 [oS 2 (.load none (tm 0)),oS 3 (.mv (tm 2)),oG 4 (.load none (tm 1)) 3 true,oG 5 (.bin .eql (tm 4) (ci 0)) 3 true,oS 6 (.pick (tm 3) (tm 5) (.const (.bool false))),oN (.store 1 (tm 0)
 (tm 6))]⟩
def f31 : IFn:=⟨45,[.tmp 5],.seq (.region 1 [oS 4 (.box 41 (tm 0)),oS 5 (.mv (.const (.slice none 0 0)))]) ( .seq (.region 0 [oS 9 (.load none (tm 1)),oS 10 (.load none (tm 2)),oS 11 (.idxA none 1 (tm 9) (tm 10)),oS
 12 (.load none (tm 11)),oS 6 (.mv (tm 12))]) ( .seq (.seq (.region 0 [oS 13 (.fldA 3 (tm 4)),oS 14 (.load none (tm 13)),oS 15 (.bin .lss (tm 14) (ci 0))]) ( .cond (tm 15) ( .seq (.region 0 [oS 16
 (.load none (tm 3)),oS 17 (.mv (tm 16)),oG 18 (.mv (tm 6)) 17 true,oG 19 (.fldA 2 (tm 4)) 17 true,oG 20 (.load none (tm 19)) 17 true,oG 21 (.call (.func 32) [(tm 18),(tm 20)]) 17 true,oS 22 (.pick
 (tm 17) (tm 21) (.const (.bool false))),oN (.store 1 (tm 3) (tm 22))]) ( .seq (.region 0 [oS 23 (.fldA 2 (tm 4)),oS 24 (.load none (tm 23)),oS 5 (.mv (tm 24))]) ( .ret))) ( .skip))) ( .seq (.region 0
 [oS 26 (.load (some 4) (tm 4)),oS 27 (.mv (tm 6)),oS 28 (.call (.func 33) [(tm 26),(tm 27)]),oS 25 (.mv (tm 28)),oS 29 (.extr (tm 25) 0),oS 30 (.extr (tm 25) 1),oS 7 (.mv (tm 29)),oS 8 (.mv (tm
 30))]) ( .seq (.seq (.draw 0 [⟨0,0,0,oS 31 (.mv (tm 7)),none⟩,⟨1,0,1,oS 32 (.un .not (tm 31)),none⟩,⟨2,0,3,oS 33 (.mv (tm 32)),none⟩,⟨3,0,7,oG 34 (.load (some 4) (tm 4)) 33 false,none⟩,⟨4,0,7,oG 35
 (.mv (tm 6)) 33 false,none⟩,⟨6,0,7,oG 37 (.load (some 4) (tm 4)) 33 false,none⟩,⟨5,0,31,oG 36 (.call (.func 34) [(tm 34),(tm 35)]) 33 false,none⟩,⟨7,0,127,oG 38 (.call (.func 35) [(tm 37)]) 33
 false,none⟩,⟨8,0,255,oG 39 (.call (.func 36) [(tm 38)]) 33 false,none⟩,⟨9,0,511,oG 40 (.eqc true [(.int .i64),(.int .i64)] true (tm 36) (tm 39)) 33 false,none⟩,⟨10,0,1023,oS 41 (.pick (tm 33) (.const
 (.bool true)) (tm 40)),none⟩]) ( .cond (tm 41) ( .seq (.region 0 [oN (.store 1 (tm 3) (.const (.bool false)))]) ( .seq (.region 0 [oS 42 (.fldA 2 (tm 4)),oS 43 (.load none (tm 42)),oS 5 (.mv (tm
 43))]) ( .ret))) ( .skip))) ( .seq (.region 0 [oS 44 (.mv (tm 6)),oS 5 (.mv (tm 44))]) ( .ret))))))⟩
def f32 : IFn:=⟨26,[.tmp 4],.seq (.region 0 [oS 4 (.mv (.const (.bool false)))]) ( .seq (.seq (.region 0 [oS 6 (.mv (tm 0)),oS 7 (.ln (tm 6)),oS 8 (.mv (tm 1)),oS 9 (.ln (tm 8)),oS 10 (.bin .neq (tm 7) (tm 9))]) (
 .cond (tm 10) ( .seq (.region 0 [oS 4 (.mv (.const (.bool false)))]) ( .ret)) ( .skip))) ( .seq (.seq (.region 0 [oS 11 (.mv (tm 0)),oS 12 (.ln (tm 11)),oS 13 (.mv (ci 0))]) ( .block 0 ( .loop ( .seq
 (.region 0 [oS 14 (.bin .lss (tm 13) (tm 12))]) ( .seq (.cond (tm 14) ( .skip) ( .exit 0)) ( .seq (.block 1 ( .seq (.region 0 [oS 15 (.mv (tm 13)),oS 5 (.mv (tm 15))]) ( .seq (.draw 0 [⟨0,0,0,oS 16
 (.mv (tm 0)),none⟩,⟨1,0,0,oS 17 (.mv (tm 5)),none⟩,⟨2,0,3,oS 18 (.idxA none 1 (tm 16) (tm 17)),none⟩,⟨3,0,7,oS 19 (.load none (tm 18)),none⟩,⟨4,0,0,oS 20 (.mv (tm 1)),none⟩,⟨5,0,0,oS 21 (.mv (tm
 5)),none⟩,⟨6,0,48,oS 22 (.idxA none 1 (tm 20) (tm 21)),none⟩,⟨7,0,112,oS 23 (.load none (tm 22)),none⟩,⟨8,0,255,oS 24 (.bin .neq (tm 19) (tm 23)),none⟩]) ( .cond (tm 24) ( .seq (.region 0 [oS 4 (.mv
 (.const (.bool false)))]) ( .ret)) ( .skip))))) ( .region 0 [oS 25 (.bin .add (tm 13) (ci 1)),oS 13 (.mv (tm 25))]))))))) ( .seq (.region 0 [oS 4 (.mv (.const (.bool true)))]) ( .ret))))⟩
def f33 : IFn:=⟨30,[.tmp 4,.tmp 5],.seq (.region 1 [oS 2 (.box 41 (tm 0)),oS 4 (.mv (.const (.bool false))),oS 5 (.mv (ci 0))]) ( .seq (.seq (.region 0 [oS 7 (.load (some 4) (tm 2)),oS 8 (.call (.func 38) [(tm
 7)]),oS 6 (.mv (tm 8))]) ( .seq (.region 0 [oS 9 (.mv (tm 6)),oS 10 (.bin .neq (tm 9) (ci 0))]) ( .cond (tm 10) ( .seq (.region 0 [oS 11 (.mv (tm 6)),oS 4 (.mv (.const (.bool false))),oS 5 (.mv (tm
 11))]) ( .ret)) ( .skip)))) ( .seq (.draw 0 [⟨0,0,0,oS 12 (.fldA 0 (tm 2)),none⟩,⟨1,0,1,oS 13 (.fldA 0 (tm 12)),none⟩,⟨2,0,3,oS 14 (.load none (tm 13)),none⟩,⟨3,0,0,oS 15 (.mv (tm
 1)),none⟩,⟨4,0,15,oS 16 (.call (.func 44) [(tm 14),(tm 15)]),none⟩,⟨5,0,31,oS 17 (.bin .eql (tm 16) (ci 0)),none⟩,⟨6,0,63,oS 18 (.mv (tm 17)),none⟩,⟨7,0,127,oG 19 (.mv (tm 1)) 18
 true,none⟩,⟨8,0,127,oG 20 (.fldA 3 (tm 2)) 18 true,none⟩,⟨9,0,383,oG 21 (.load none (tm 20)) 18 true,none⟩,⟨10,0,1023,oG 22 (.slc 3 1 (tm 19) none (some (tm 21)) none) 18 true,none⟩,⟨11,0,127,oG 23
 (.fldA 2 (tm 2)) 18 true,none⟩,⟨12,0,2175,oG 24 (.load none (tm 23)) 18 true,none⟩,⟨13,0,127,oG 25 (.fldA 3 (tm 2)) 18 true,none⟩,⟨14,0,8319,oG 26 (.load none (tm 25)) 18 true,none⟩,⟨15,0,30847,oG 27
 (.slc 3 1 (tm 24) none (some (tm 26)) none) 18 true,none⟩,⟨16,0,65535,oG 28 (.call (.func 32) [(tm 22),(tm 27)]) 18 true,none⟩,⟨17,0,131071,oS 29 (.pick (tm 18) (tm 28) (.const (.bool
 false))),none⟩,⟨18,0,262143,oS 4 (.mv (tm 29)),none⟩,⟨19,0,524287,oS 5 (.mv (ci 0)),none⟩]) ( .ret)))⟩
def f34 : IFn:=⟨20,[.cell 4 (some 2)],.seq (.region 2 [oS 2 (.box 41 (tm 0)),oS 4 (.alloc 79 [(.int .i64 0),(.int .i64 0)])]) ( .seq (.region 0 [oS 8 (.fldA 0 (tm 2)),oS 9 (.load (some 2) (tm 8)),oS 10 (.mv (tm
 1)),oS 11 (.call (.func 67) [(tm 9),(tm 10)]),oS 7 (.mv (tm 11)),oS 12 (.extr (tm 7) 0),oS 13 (.extr (tm 7) 1),oS 5 (.mv (tm 12)),oS 6 (.mv (tm 13))]) ( .seq (.region 0 [oS 14 (.mv (tm 5)),oS 15
 (.fldA 2 (tm 2)),oS 16 (.load none (tm 15)),oS 17 (.mv (tm 1)),oS 18 (.call (.func 68) [(tm 16),(tm 17)]),oS 19 (.build [(.int .i64 0),(.int .i64 0)] [(0,1,(tm 14)),(1,1,(tm 18))]),oN (.store 2 (tm
 4) (tm 19))]) ( .ret)))⟩
def f35 : IFn:=⟨152,[.tmp 2],.seq (.region 1 [oS 1 (.box 41 (tm 0)),oS 2 (.mv (.const (.pointer none)))]) ( .seq (.draw 3 [⟨0,0,0,oS 14 (.load (some 4) (tm 1)),none⟩,⟨1,0,0,oS 15 (.mkmap),none⟩,⟨2,1,0,oS 16 (.fldA 2
 (tm 1)),none⟩,⟨3,1,4,oS 17 (.load none (tm 16)),none⟩,⟨4,1,0,oS 18 (.fldA 3 (tm 1)),none⟩,⟨5,1,16,oS 19 (.load none (tm 18)),none⟩,⟨6,1,60,oS 20 (.slc 3 1 (tm 17) none (some (tm 19))
 none),none⟩,⟨7,1,0,oS 21 (.mkmap),none⟩,⟨8,2,255,oS 22 (.build ([(.int .i64 0)] ++ reps 2 (.slice none 0 0) ++ [(.int .i64 0)] ++ [(.slice none 0 0)] ++ [(.map none)] ++ [(.slice none 0 0)] ++ [(.int
 .i64 0)] ++ [(.slice none 0 0)] ++ [(.map none)]) [(0,4,(tm 14)),(5,1,(tm 15)),(6,1,(tm 20)),(9,1,(tm 21))]),none⟩,⟨9,2,511,oS 23 (.box 128 (tm 22)),none⟩,⟨10,3,1023,oS 3 (.mv (tm 23)),none⟩]) ( .seq
 (.seq (.region 0 [oS 24 (.fldA 2 (tm 1)),oS 25 (.load none (tm 24)),oS 26 (.ln (tm 25)),oS 27 (.mv (ci 0))]) ( .block 0 ( .loop ( .seq (.region 0 [oS 28 (.bin .lss (tm 27) (tm 26))]) ( .seq (.cond
 (tm 28) ( .skip) ( .exit 0)) ( .seq (.block 1 ( .seq (.region 0 [oS 29 (.mv (tm 27)),oS 30 (.idxA none 1 (tm 25) (tm 27)),oS 31 (.load none (tm 30)),oS 4 (.mv (tm 29)),oS 5 (.mv (tm 31))]) ( .region
 0 [oS 32 (.mv (tm 3)),oS 33 (.nilc (tm 32)),oS 34 (.fldA 5 (tm 33)),oS 35 (.load none (tm 34)),oS 36 (.mv (tm 5)),oS 37 (.mv (tm 4)),oN (.mset [(.int .i64)] false (tm 35) (tm 36) (tm 37))]))) (
 .region 0 [oS 38 (.bin .add (tm 27) (ci 1)),oS 27 (.mv (tm 38))]))))))) ( .seq (.region 1 [oS 39 (.mv (tm 3)),oS 40 (.fldA 0 (tm 1)),oS 41 (.fldA 0 (tm 40)),oS 42 (.load none (tm 41)),oS 43 (.mksl 25
 1 24 [(.slice none 0 0)] (tm 42) (tm 42)),oS 44 (.nilc (tm 39)),oS 45 (.fldA 8 (tm 44)),oN (.store 1 (tm 45) (tm 43))]) ( .seq (.seq (.region 0 [oS 46 (.mv (tm 3)),oS 47 (.nilc (tm 46)),oS 48 (.fldA
 8 (tm 47)),oS 49 (.load none (tm 48)),oS 50 (.ln (tm 49)),oS 51 (.mv (ci 0))]) ( .block 2 ( .loop ( .seq (.region 0 [oS 52 (.bin .lss (tm 51) (tm 50))]) ( .seq (.cond (tm 52) ( .skip) ( .exit 2)) (
 .seq (.block 3 ( .seq (.region 0 [oS 53 (.mv (tm 51)),oS 6 (.mv (tm 53))]) ( .draw 1 [⟨0,0,0,oS 54 (.mv (tm 3)),none⟩,⟨1,0,1,oS 55 (.nilc (tm 54)),none⟩,⟨2,0,3,oS 56 (.fldA 8 (tm 55)),none⟩,⟨3,0,7,oS
 57 (.load none (tm 56)),none⟩,⟨4,0,0,oS 58 (.mv (tm 6)),none⟩,⟨5,0,0,oS 59 (.fldA 0 (tm 1)),none⟩,⟨6,0,32,oS 60 (.fldA 0 (tm 59)),none⟩,⟨7,0,96,oS 61 (.load none (tm 60)),none⟩,⟨8,0,224,oS 62 (.mksl
 3 1 8 [(.int .i64 0)] (tm 61) (tm 61)),none⟩,⟨9,1,511,oS 63 (.idxA none 1 (tm 57) (tm 58)),none⟩,⟨10,1,1023,oN (.store 1 (tm 63) (tm 62)),none⟩]))) ( .region 0 [oS 64 (.bin .add (tm 51) (ci 1)),oS 51
 (.mv (tm 64))]))))))) ( .seq (.seq (.region 0 [oS 65 (.fldA 0 (tm 1)),oS 66 (.fldA 1 (tm 65)),oS 67 (.load none (tm 66)),oS 68 (.ln (tm 67)),oS 69 (.mv (ci 0))]) ( .block 4 ( .loop ( .seq (.region 0
 [oS 70 (.bin .lss (tm 69) (tm 68))]) ( .seq (.cond (tm 70) ( .skip) ( .exit 4)) ( .seq (.block 5 ( .seq (.region 1 [oS 71 (.idxA none 4 (tm 67) (tm 69)),oS 72 (.load (some 4) (tm 71)),oS 8 (.alloc 86
 [(.int .i64 0),(.int .i64 0),(.int .i64 0),(.int .i64 0)]),oN (.store 4 (tm 8) (tm 72))]) ( .draw 0 [⟨0,0,0,oS 73 (.mv (tm 3)),none⟩,⟨1,0,1,oS 74 (.nilc (tm 73)),none⟩,⟨2,0,3,oS 75 (.fldA 8 (tm
 74)),none⟩,⟨3,0,7,oS 76 (.load none (tm 75)),none⟩,⟨4,0,0,oS 77 (.fldA 0 (tm 8)),none⟩,⟨5,0,16,oS 78 (.load none (tm 77)),none⟩,⟨6,0,63,oS 79 (.idxA none 1 (tm 76) (tm 78)),none⟩,⟨7,0,127,oS 80
 (.load none (tm 79)),none⟩,⟨8,0,0,oS 81 (.fldA 1 (tm 8)),none⟩,⟨9,0,256,oS 82 (.load none (tm 81)),none⟩,⟨10,0,0,oS 83 (.fldA 3 (tm 8)),none⟩,⟨11,0,1024,oS 84 (.load none (tm 83)),none⟩,⟨12,0,4095,oS
 85 (.idxA none 1 (tm 80) (tm 82)),none⟩,⟨13,0,8191,oN (.store 1 (tm 85) (tm 84)),none⟩]))) ( .region 0 [oS 86 (.bin .add (tm 69) (ci 1)),oS 69 (.mv (tm 86))]))))))) ( .seq (.seq (.region 0 [oS 87
 (.mv (tm 3)),oS 88 (.nilc (tm 87)),oS 89 (.fldA 6 (tm 88)),oS 90 (.load none (tm 89)),oS 91 (.ln (tm 90)),oS 92 (.mv (ci 0))]) ( .block 6 ( .loop ( .seq (.region 0 [oS 93 (.bin .lss (tm 92) (tm
 91))]) ( .seq (.cond (tm 93) ( .skip) ( .exit 6)) ( .seq (.block 7 ( .seq (.region 0 [oS 94 (.mv (tm 92)),oS 95 (.idxA none 1 (tm 90) (tm 92)),oS 96 (.load none (tm 95)),oS 9 (.mv (tm 94)),oS 10 (.mv
 (tm 96))]) ( .seq (.region 0 [oS 97 (.mv (tm 3)),oS 98 (.nilc (tm 97)),oS 99 (.fldA 6 (tm 98)),oS 100 (.load none (tm 99)),oS 101 (.mv (tm 9)),oS 102 (.slc 3 1 (tm 100) none (some (tm 101)) none),oS
 103 (.ln (tm 102)),oS 104 (.mv (ci 0))]) ( .block 8 ( .loop ( .seq (.region 0 [oS 105 (.bin .lss (tm 104) (tm 103))]) ( .seq (.cond (tm 105) ( .skip) ( .exit 8)) ( .seq (.block 9 ( .seq (.region 0
 [oS 106 (.idxA none 1 (tm 102) (tm 104)),oS 107 (.load none (tm 106)),oS 12 (.mv (tm 107))]) ( .draw 0 [⟨0,0,0,oS 108 (.mv (tm 3)),none⟩,⟨1,0,1,oS 109 (.nilc (tm 108)),none⟩,⟨2,0,3,oS 110 (.fldA 7
 (tm 109)),none⟩,⟨3,0,7,oS 111 (.load none (tm 110)),none⟩,⟨4,0,0,oS 112 (.mv (tm 3)),none⟩,⟨5,0,16,oS 113 (.nilc (tm 112)),none⟩,⟨6,0,48,oS 114 (.fldA 8 (tm 113)),none⟩,⟨7,0,112,oS 115 (.load none
 (tm 114)),none⟩,⟨8,0,0,oS 116 (.mv (tm 10)),none⟩,⟨9,0,496,oS 117 (.idxA none 1 (tm 115) (tm 116)),none⟩,⟨10,0,1008,oS 118 (.load none (tm 117)),none⟩,⟨11,0,0,oS 119 (.mv (tm 12)),none⟩,⟨12,0,4080,oS
 120 (.idxA none 1 (tm 118) (tm 119)),none⟩,⟨13,0,8176,oS 121 (.load none (tm 120)),none⟩,⟨14,0,16383,oS 122 (.bin .add (tm 111) (tm 121)),none⟩,⟨15,0,32767,oS 123 (.nilc (tm
 108)),none⟩,⟨16,0,65535,oS 124 (.fldA 7 (tm 123)),none⟩,⟨17,0,131071,oN (.store 1 (tm 124) (tm 122)),none⟩]))) ( .region 0 [oS 125 (.bin .add (tm 104) (ci 1)),oS 104 (.mv (tm 125))]))))))))) (
 .region 0 [oS 126 (.bin .add (tm 92) (ci 1)),oS 92 (.mv (tm 126))]))))))) ( .seq (.seq (.region 0 [oS 127 (.fldA 0 (tm 1)),oS 128 (.fldA 0 (tm 127)),oS 129 (.load none (tm 128)),oS 130 (.mv (ci 0))])
 ( .block 10 ( .loop ( .seq (.region 0 [oS 131 (.bin .lss (tm 130) (tm 129))]) ( .seq (.cond (tm 131) ( .skip) ( .exit 10)) ( .seq (.block 11 ( .seq (.region 0 [oS 132 (.mv (tm 130)),oS 13 (.mv (tm
 132))]) ( .seq (.region 0 [oS 133 (.mv (tm 3)),oS 134 (.nilc (tm 133)),oS 135 (.fldA 6 (tm 134)),oS 136 (.load none (tm 135)),oS 137 (.mv (tm 13)),oS 138 (.call (.func 47) [(tm 136),(tm 137)]),oS 139
 (.un .not (tm 138))]) ( .cond (tm 139) ( .region 2 [oS 140 (.mv (tm 3)),oS 141 (.mv (tm 3)),oS 142 (.nilc (tm 141)),oS 143 (.fldA 4 (tm 142)),oS 144 (.load none (tm 143)),oS 145 (.mv (tm 13)),oS 146
 (.bslice 3 1 [(.int .i64 0)] 1 [(0,1,(tm 145))]),oS 147 (.app 3 1 8 [(.int .i64 0)] (tm 144) (tm 146)),oS 148 (.nilc (tm 140)),oS 149 (.fldA 4 (tm 148)),oN (.store 1 (tm 149) (tm 147))]) ( .skip)))))
 ( .region 0 [oS 150 (.bin .add (tm 130) (ci 1)),oS 130 (.mv (tm 150))]))))))) ( .seq (.region 0 [oS 151 (.mv (tm 3)),oS 2 (.mv (tm 151))]) ( .ret)))))))))⟩
def f36 : IFn:=⟨15,[.cell 2 (some 2)],.seq (.region 1 [oS 2 (.alloc 79 [(.int .i64 0),(.int .i64 0)])]) ( .seq (.region 2 [oS 6 (.mv (tm 0)),oS 7 (.call (.func 39) [(tm 6)]),oS 5 (.mv (tm 7)),oS 8 (.extr (tm 5)
 0),oS 9 (.extr (tm 5) 1),oS 3 (.alloc 89 [(.int .i64 0),(.int .i64 0)]),oS 4 (.alloc 79 [(.int .i64 0),(.int .i64 0)]),oN (.store 2 (tm 3) (tm 8)),oN (.store 2 (tm 4) (tm 9))]) ( .seq (.draw 0
 [⟨0,0,0,oS 10 (.load (some 2) (tm 4)),none⟩,⟨1,0,0,oS 11 (.mv (tm 0)),none⟩,⟨2,0,0,oS 12 (.load (some 2) (tm 3)),none⟩,⟨3,0,6,oS 13 (.call (.func 69) [(tm 11),(tm 12)]),none⟩,⟨4,0,15,oS 14 (.call
 (.func 43) [(tm 10),(tm 13)]),none⟩,⟨5,0,31,oN (.store 2 (tm 2) (tm 14)),none⟩]) ( .ret)))⟩
def f37 : IFn:=⟨34,[.tmp 4],.seq (.region 1 [oS 2 (.box 41 (tm 0)),oS 4 (.mv (.const (.bool false)))]) ( .seq (.region 0 [oS 10 (.load (some 4) (tm 2)),oS 11 (.mv (tm 1)),oS 12 (.call (.func 70) [(tm 10),(tm
 11)]),oS 9 (.mv (tm 12)),oS 13 (.extr (tm 9) 0),oS 14 (.extr (tm 9) 1),oS 15 (.extr (tm 9) 2),oS 5 (.mv (tm 13)),oS 6 (.mv (tm 14)),oS 7 (.mv (tm 15))]) ( .seq (.seq (.region 0 [oS 16 (.mv (tm 7)),oS
 17 (.bin .neq (tm 16) (ci 0))]) ( .cond (tm 17) ( .seq (.region 0 [oS 4 (.mv (.const (.bool false)))]) ( .ret)) ( .skip))) ( .seq (.region 0 [oS 18 (.load (some 4) (tm 2)),oS 19 (.call (.func 65)
 [(tm 18)]),oS 8 (.mv (tm 19))]) ( .seq (.region 0 [oS 20 (.mv (tm 5)),oS 21 (.mv (tm 8)),oS 22 (.nilc (tm 21)),oS 23 (.fldA 0 (tm 22)),oS 24 (.load none (tm 23)),oS 25 (.bin .eql (tm 20) (tm 24)),oS
 26 (.mv (tm 25)),oG 27 (.mv (tm 6)) 26 true,oG 28 (.mv (tm 8)) 26 true,oG 29 (.nilc (tm 28)) 26 true,oG 30 (.fldA 1 (tm 29)) 26 true,oG 31 (.load none (tm 30)) 26 true,oG 32 (.bin .eql (tm 27) (tm
 31)) 26 true,oS 33 (.pick (tm 26) (tm 32) (.const (.bool false))),oS 4 (.mv (tm 33))]) ( .ret)))))⟩
def f38 : IFn:=⟨58,[.tmp 2],.seq (.region 1 [oS 1 (.box 41 (tm 0)),oS 2 (.mv (ci 0))]) ( .seq (.seq (.region 0 [oS 7 (.fldA 0 (tm 1)),oS 8 (.load (some 2) (tm 7)),oS 9 (.call (.func 53) [(tm 8)]),oS 3 (.mv (tm 9))])
 ( .seq (.region 0 [oS 10 (.mv (tm 3)),oS 11 (.bin .neq (tm 10) (ci 0))]) ( .cond (tm 11) ( .seq (.region 0 [oS 12 (.mv (tm 3)),oS 2 (.mv (tm 12))]) ( .ret)) ( .skip)))) ( .seq (.region 1 [oS 13
 (.mkmap),oS 4 (.mv (tm 13))]) ( .seq (.seq (.region 0 [oS 14 (.fldA 2 (tm 1)),oS 15 (.load none (tm 14)),oS 16 (.ln (tm 15)),oS 17 (.mv (ci 0))]) ( .block 0 ( .loop ( .seq (.region 0 [oS 18 (.bin
 .lss (tm 17) (tm 16))]) ( .seq (.cond (tm 18) ( .skip) ( .exit 0)) ( .seq (.block 1 ( .seq (.region 0 [oS 19 (.idxA none 1 (tm 15) (tm 17)),oS 20 (.load none (tm 19)),oS 6 (.mv (tm 20))]) ( .seq
 (.block 2 ( .seq (.region 0 [oS 22 (.mv (tm 6)),oS 23 (.bin .lss (tm 22) (ci 0)),oS 24 (.mv (tm 23)),oG 25 (.mv (tm 6)) 24 false,oG 26 (.fldA 0 (tm 1)) 24 false,oG 27 (.fldA 0 (tm 26)) 24 false,oG 28
 (.load none (tm 27)) 24 false,oG 29 (.bin .geq (tm 25) (tm 28)) 24 false,oS 30 (.pick (tm 24) (.const (.bool true)) (tm 29)),oS 21 (.mv (tm 30))]) ( .cond (tm 21) ( .seq (.region 0 [oS 2 (.mv (ci
 1))]) ( .ret)) ( .seq (.region 0 [oS 32 (.mv (tm 4)),oS 33 (.mv (tm 6)),oS 34 (.look [(.int .i64)] false (.bool false) false (tm 32) (tm 33)),oS 31 (.mv (tm 34))]) ( .cond (tm 31) ( .seq (.region 0
 [oS 2 (.mv (ci 6))]) ( .ret)) ( .skip)))))) ( .region 0 [oS 35 (.mv (tm 4)),oS 36 (.mv (tm 6)),oN (.mset [(.int .i64)] false (tm 35) (tm 36) (.const (.bool true)))])))) ( .region 0 [oS 37 (.bin .add
 (tm 17) (ci 1)),oS 17 (.mv (tm 37))]))))))) ( .seq (.block 3 ( .seq (.region 0 [oS 39 (.fldA 3 (tm 1)),oS 40 (.load none (tm 39)),oS 41 (.bin .lss (tm 40) (ci 0)),oS 42 (.mv (tm 41)),oG 43 (.fldA 3
 (tm 1)) 42 false,oG 44 (.load none (tm 43)) 42 false,oG 45 (.fldA 2 (tm 1)) 42 false,oG 46 (.load none (tm 45)) 42 false,oG 47 (.ln (tm 46)) 42 false,oG 48 (.bin .gtr (tm 44) (tm 47)) 42 false,oS 49
 (.pick (tm 42) (.const (.bool true)) (tm 48)),oS 38 (.mv (tm 49))]) ( .cond (tm 38) ( .seq (.region 0 [oS 2 (.mv (ci 1))]) ( .ret)) ( .seq (.region 0 [oS 51 (.fldA 0 (tm 1)),oS 52 (.fldA 0 (tm
 51)),oS 53 (.load none (tm 52)),oS 54 (.fldA 3 (tm 1)),oS 55 (.load none (tm 54)),oS 56 (.bin .sub (tm 53) (tm 55)),oS 57 (.bin .gtr (tm 56) (ci 8)),oS 50 (.mv (tm 57))]) ( .cond (tm 50) ( .seq
 (.region 0 [oS 2 (.mv (ci 2))]) ( .ret)) ( .skip)))))) ( .seq (.region 0 [oS 2 (.mv (ci 0))]) ( .ret))))))⟩
def f39 : IFn:=⟨16,[.cell 2 (some 2),.cell 3 (some 2)],.seq (.region 2 [oS 2 (.alloc 89 [(.int .i64 0),(.int .i64 0)]),oS 3 (.alloc 79 [(.int .i64 0),(.int .i64 0)])]) ( .seq (.draw 0 [⟨0,0,0,oS 4 (.mv (tm
 0)),none⟩,⟨1,0,1,oS 5 (.nilc (tm 4)),none⟩,⟨2,0,3,oS 6 (.fldA 0 (tm 5)),none⟩,⟨3,0,7,oS 7 (.fldA 3 (tm 6)),none⟩,⟨4,0,15,oS 8 (.load none (tm 7)),none⟩,⟨5,0,31,oS 9 (.bin .sub (tm 8) (ci
 1)),none⟩,⟨6,0,63,oS 10 (.build [(.int .i64 0),(.int .i64 0)] [(0,1,(ci 0)),(1,1,(tm 9))]),none⟩,⟨7,0,0,oS 11 (.mv (tm 0)),none⟩,⟨8,0,128,oS 12 (.nilc (tm 11)),none⟩,⟨9,0,384,oS 13 (.fldA 7 (tm
 12)),none⟩,⟨10,0,896,oS 14 (.load none (tm 13)),none⟩,⟨11,0,1920,oS 15 (.build [(.int .i64 0),(.int .i64 0)] [(0,1,(tm 14)),(1,1,(ci 0))]),none⟩,⟨12,0,127,oN (.store 2 (tm 2) (tm
 10)),none⟩,⟨13,0,8191,oN (.store 2 (tm 3) (tm 15)),none⟩]) ( .ret))⟩
def f40 : IFn:=⟨10,[.tmp 2],.seq (.region 0 [oS 2 (.mv (ci 0))]) ( .seq (.region 0 [oS 3 (.mv (tm 0)),oS 4 (.nilc (tm 3)),oS 5 (.fldA 4 (tm 4)),oS 6 (.load none (tm 5)),oS 7 (.ln (tm 6)),oS 8 (.bin .shl (ci 1) (tm
 7)),oS 9 (.bin .sub (tm 8) (ci 1)),oS 2 (.mv (tm 9))]) ( .ret))⟩
def f41 : IFn:=⟨24,[.tmp 4],.seq (.region 2 [oS 2 (.box 79 (tm 0)),oS 3 (.box 79 (tm 1)),oS 4 (.mv (.const (.bool false)))]) ( .seq (.region 0 [oS 5 (.idxA (some 2) 1 (tm 2) (ci 0)),oS 6 (.load none (tm 5)),oS 7
 (.idxA (some 2) 1 (tm 3) (ci 0)),oS 8 (.load none (tm 7)),oS 9 (.bin .lss (tm 6) (tm 8)),oS 10 (.mv (tm 9)),oG 11 (.idxA (some 2) 1 (tm 2) (ci 0)) 10 false,oG 12 (.load none (tm 11)) 10 false,oG 13
 (.idxA (some 2) 1 (tm 3) (ci 0)) 10 false,oG 14 (.load none (tm 13)) 10 false,oG 15 (.bin .eql (tm 12) (tm 14)) 10 false,oG 16 (.mv (tm 15)) 10 false,oG 17 (.idxA (some 2) 1 (tm 2) (ci 1)) 16 true,oG
 18 (.load none (tm 17)) 16 true,oG 19 (.idxA (some 2) 1 (tm 3) (ci 1)) 16 true,oG 20 (.load none (tm 19)) 16 true,oG 21 (.bin .lss (tm 18) (tm 20)) 16 true,oG 22 (.pick (tm 16) (tm 21) (.const (.bool
 false))) 10 false,oS 23 (.pick (tm 10) (.const (.bool true)) (tm 22)),oS 4 (.mv (tm 23))]) ( .ret))⟩
def f42 : IFn:=⟨6,[.tmp 4],.seq (.region 2 [oS 2 (.box 81 (tm 0)),oS 3 (.box 89 (tm 1)),oS 4 (.mv (.const .nilFunc))]) ( .seq (.region 0 [oS 5 (.mkfn (.func 71) [] [(tm 2),(tm 3)]),oS 4 (.mv (tm 5))]) ( .ret))⟩
def f43 : IFn:=⟨16,[.cell 4 (some 2)],.seq (.region 3 [oS 2 (.box 79 (tm 0)),oS 3 (.box 79 (tm 1)),oS 4 (.alloc 79 [(.int .i64 0),(.int .i64 0)])]) ( .seq (.region 0 [oS 5 (.idxA (some 2) 1 (tm 2) (ci 0)),oS 6
 (.load none (tm 5)),oS 7 (.idxA (some 2) 1 (tm 3) (ci 0)),oS 8 (.load none (tm 7)),oS 9 (.bin .add (tm 6) (tm 8)),oS 10 (.idxA (some 2) 1 (tm 2) (ci 1)),oS 11 (.load none (tm 10)),oS 12 (.idxA (some
 2) 1 (tm 3) (ci 1)),oS 13 (.load none (tm 12)),oS 14 (.bin .add (tm 11) (tm 13)),oS 15 (.build [(.int .i64 0),(.int .i64 0)] [(0,1,(tm 9)),(1,1,(tm 14))]),oN (.store 2 (tm 4) (tm 15))]) ( .ret))⟩
def f44 : IFn:=⟨37,[.tmp 4],.seq (.region 0 [oS 4 (.mv (ci 0))]) ( .seq (.seq (.region 0 [oS 8 (.mv (tm 1)),oS 9 (.ln (tm 8)),oS 10 (.mv (tm 0)),oS 11 (.bin .neq (tm 9) (tm 10))]) ( .cond (tm 11) ( .seq (.region 0
 [oS 4 (.mv (ci 1))]) ( .ret)) ( .skip))) ( .seq (.region 1 [oS 12 (.mv (tm 0)),oS 13 (.mksl 4 1 1 [(.bool false)] (tm 12) (tm 12)),oS 5 (.mv (tm 13))]) ( .seq (.seq (.region 0 [oS 14 (.mv (tm 1)),oS
 15 (.ln (tm 14)),oS 16 (.mv (ci 0))]) ( .block 0 ( .loop ( .seq (.region 0 [oS 17 (.bin .lss (tm 16) (tm 15))]) ( .seq (.cond (tm 17) ( .skip) ( .exit 0)) ( .seq (.block 1 ( .seq (.region 0 [oS 18
 (.idxA none 1 (tm 14) (tm 16)),oS 19 (.load none (tm 18)),oS 7 (.mv (tm 19))]) ( .seq (.seq (.region 0 [oS 20 (.mv (tm 7)),oS 21 (.bin .lss (tm 20) (ci 0)),oS 22 (.mv (tm 21)),oG 23 (.mv (tm 7)) 22
 false,oG 24 (.mv (tm 0)) 22 false,oG 25 (.bin .geq (tm 23) (tm 24)) 22 false,oS 26 (.pick (tm 22) (.const (.bool true)) (tm 25)),oS 27 (.mv (tm 26)),oG 28 (.mv (tm 5)) 27 false,oG 29 (.mv (tm 7)) 27
 false,oG 30 (.idxA none 1 (tm 28) (tm 29)) 27 false,oG 31 (.load none (tm 30)) 27 false,oS 32 (.pick (tm 27) (.const (.bool true)) (tm 31))]) ( .cond (tm 32) ( .seq (.region 0 [oS 4 (.mv (ci 1))]) (
 .ret)) ( .skip))) ( .region 0 [oS 33 (.mv (tm 5)),oS 34 (.mv (tm 7)),oS 35 (.idxA none 1 (tm 33) (tm 34)),oN (.store 1 (tm 35) (.const (.bool true)))])))) ( .region 0 [oS 36 (.bin .add (tm 16) (ci
 1)),oS 16 (.mv (tm 36))]))))))) ( .seq (.region 0 [oS 4 (.mv (ci 0))]) ( .ret)))))⟩
def f45 : IFn:=⟨4,[.tmp 2],.seq (.region 1 [oS 1 (.box 81 (tm 0)),oS 2 (.mv (.const .nilFunc))]) ( .seq (.region 0 [oS 3 (.mkfn (.func 73) [] [(tm 1)]),oS 2 (.mv (tm 3))]) ( .ret))⟩
def f46 : IFn:=⟨26,[.tmp 2],.seq (.region 0 [oS 2 (.mv (ci 0))]) ( .seq (.seq (.region 0 [oS 7 (.mv (tm 0)),oS 8 (.ln (tm 7)),oS 9 (.mv (ci 0))]) ( .block 0 ( .loop ( .seq (.region 0 [oS 10 (.bin .lss (tm 9) (tm
 8))]) ( .seq (.cond (tm 10) ( .skip) ( .exit 0)) ( .seq (.block 1 ( .seq (.region 0 [oS 11 (.idxA none 1 (tm 7) (tm 9)),oS 12 (.load none (tm 11)),oS 4 (.mv (tm 12))]) ( .seq (.region 0 [oS 13 (.mv
 (tm 4)),oS 14 (.ln (tm 13)),oS 15 (.bin .gtr (tm 14) (ci 200))]) ( .cond (tm 15) ( .seq (.region 0 [oS 2 (.mv (ci 2))]) ( .ret)) ( .skip))))) ( .region 0 [oS 16 (.bin .add (tm 9) (ci 1)),oS 9 (.mv
 (tm 16))]))))))) ( .seq (.seq (.region 0 [oS 17 (.mv (tm 0)),oS 18 (.ln (tm 17)),oS 19 (.mv (ci 0))]) ( .block 2 ( .loop ( .seq (.region 0 [oS 20 (.bin .lss (tm 19) (tm 18))]) ( .seq (.cond (tm 20) (
 .skip) ( .exit 2)) ( .seq (.block 3 ( .seq (.region 0 [oS 21 (.idxA none 1 (tm 17) (tm 19)),oS 22 (.load none (tm 21)),oS 6 (.mv (tm 22))]) ( .seq (.region 0 [oS 23 (.mv (tm 6)),oS 24 (.call (.func
 75) [(tm 23)])]) ( .cond (tm 24) ( .seq (.region 0 [oS 2 (.mv (ci 6))]) ( .ret)) ( .skip))))) ( .region 0 [oS 25 (.bin .add (tm 19) (ci 1)),oS 19 (.mv (tm 25))]))))))) ( .seq (.region 0 [oS 2 (.mv
 (ci 0))]) ( .ret))))⟩
def f47 : IFn:=⟨9,[.tmp 4],.seq (.region 0 [oS 4 (.mv (.const (.bool false)))]) ( .seq (.region 0 [oS 5 (.mv (tm 0)),oS 6 (.mv (tm 1)),oS 7 (.call (.func 48) [(tm 5),(tm 6)]),oS 8 (.bin .geq (tm 7) (ci 0)),oS 4 (.mv
 (tm 8))]) ( .ret))⟩
def f48 : IFn:=⟨19,[.tmp 4],.seq (.region 0 [oS 4 (.mv (ci 0))]) ( .seq (.seq (.region 0 [oS 6 (.mv (tm 0)),oS 7 (.ln (tm 6)),oS 8 (.mv (ci 0))]) ( .block 0 ( .loop ( .seq (.region 0 [oS 9 (.bin .lss (tm 8) (tm
 7))]) ( .seq (.cond (tm 9) ( .skip) ( .exit 0)) ( .seq (.block 1 ( .seq (.region 0 [oS 10 (.mv (tm 8)),oS 5 (.mv (tm 10))]) ( .seq (.region 0 [oS 11 (.mv (tm 1)),oS 12 (.mv (tm 0)),oS 13 (.mv (tm
 5)),oS 14 (.idxA none 1 (tm 12) (tm 13)),oS 15 (.load none (tm 14)),oS 16 (.bin .eql (tm 11) (tm 15))]) ( .cond (tm 16) ( .seq (.region 0 [oS 17 (.mv (tm 5)),oS 4 (.mv (tm 17))]) ( .ret)) (
 .skip))))) ( .region 0 [oS 18 (.bin .add (tm 8) (ci 1)),oS 8 (.mv (tm 18))]))))))) ( .seq (.region 0 [oS 4 (.mv (.const (.int .i64 (-1))))]) ( .ret)))⟩
def f49 : IFn:=⟨33,[.tmp 6],.seq (.region 0 [oS 6 (.mv (.const (.slice none 0 0)))]) ( .seq (.region 0 [oS 8 (.mv (tm 0)),oS 9 (.mv (tm 1)),oS 10 (.mv (tm 2)),oS 11 (.mv (tm 0)),oS 12 (.ln (tm 11)),oS 13 (.slc 3 1
 (tm 8) (some (tm 9)) (some (tm 10)) (some (tm 12)))]) ( .seq (.seq (.region 0 [oS 14 (.mv (tm 1)),oS 15 (.mv (tm 2)),oS 16 (.bin .eql (tm 14) (tm 15))]) ( .cond (tm 16) ( .seq (.region 0 [oS 17 (.mv
 (tm 0)),oS 6 (.mv (tm 17))]) ( .ret)) ( .skip))) ( .seq (.region 0 [oS 18 (.mv (tm 0)),oS 19 (.ln (tm 18)),oS 7 (.mv (tm 19))]) ( .seq (.draw 1 [⟨0,0,0,oS 20 (.mv (tm 0)),none⟩,⟨1,0,0,oS 21 (.mv (tm
 1)),none⟩,⟨2,0,3,oS 22 (.slc 3 1 (tm 20) none (some (tm 21)) none),none⟩,⟨3,0,0,oS 23 (.mv (tm 0)),none⟩,⟨4,0,0,oS 24 (.mv (tm 2)),none⟩,⟨5,0,24,oS 25 (.slc 3 1 (tm 23) (some (tm 24)) none
 none),none⟩,⟨6,0,63,oS 26 (.app 3 1 8 [(.int .i64 0)] (tm 22) (tm 25)),none⟩,⟨7,1,127,oS 0 (.mv (tm 26)),none⟩]) ( .seq (.region 0 [oS 27 (.mv (tm 0)),oS 28 (.mv (tm 0)),oS 29 (.ln (tm 28)),oS 30
 (.mv (tm 7)),oS 31 (.slc 3 1 (tm 27) (some (tm 29)) (some (tm 30)) none),oN (.clrs [(.int .i64 0)] (tm 31))]) ( .seq (.region 0 [oS 32 (.mv (tm 0)),oS 6 (.mv (tm 32))]) ( .ret)))))))⟩
def f50 : IFn:=⟨105,[.tmp 4],.seq (.region 1 [oS 2 (.box 25 (tm 0)),oS 4 (.mv (.const (.slice none 0 0)))]) ( .seq (.region 2 [oS 18 (.mkmap),oS 5 (.alloc 126 [(.map none)]),oN (.store 1 (tm 5) (tm 18))]) ( .seq
 (.seq (.region 0 [oS 19 (.mv (tm 1)),oS 20 (.ln (tm 19)),oS 21 (.mv (ci 0))]) ( .block 0 ( .loop ( .seq (.region 0 [oS 22 (.bin .lss (tm 21) (tm 20))]) ( .seq (.cond (tm 22) ( .skip) ( .exit 0)) (
 .seq (.block 1 ( .seq (.region 0 [oS 23 (.mv (tm 21)),oS 24 (.idxA none 1 (tm 19) (tm 21)),oS 25 (.load none (tm 24)),oS 6 (.mv (tm 23)),oS 7 (.mv (tm 25))]) ( .region 0 [oS 26 (.load none (tm 5)),oS
 27 (.mv (tm 7)),oS 28 (.mv (tm 6)),oN (.mset [(.int .i64)] false (tm 26) (tm 27) (tm 28))]))) ( .region 0 [oS 29 (.bin .add (tm 21) (ci 1)),oS 21 (.mv (tm 29))]))))))) ( .seq (.region 2 [oS 30 (.load
 none (tm 2)),oS 31 (.ln (tm 30)),oS 32 (.mksl 3 1 8 [(.int .i64 0)] (tm 31) (tm 31)),oS 8 (.alloc 25 [(.slice none 0 0)]),oN (.store 1 (tm 8) (tm 32))]) ( .seq (.seq (.region 0 [oS 33 (.load none (tm
 2)),oS 34 (.ln (tm 33)),oS 35 (.bin .sub (tm 34) (ci 1)),oS 9 (.mv (tm 35))]) ( .block 2 ( .loop ( .seq (.seq (.region 0 [oS 36 (.mv (tm 9)),oS 37 (.bin .geq (tm 36) (ci 0))]) ( .cond (tm 37) (
 .skip) ( .exit 2))) ( .seq (.block 3 ( .seq (.draw 0 [⟨0,0,0,oS 41 (.load none (tm 5)),none⟩,⟨1,0,0,oS 42 (.load none (tm 2)),none⟩,⟨2,0,0,oS 43 (.mv (tm 9)),none⟩,⟨3,0,6,oS 44 (.idxA none 1 (tm 42)
 (tm 43)),none⟩,⟨4,0,14,oS 45 (.load none (tm 44)),none⟩,⟨5,0,31,oS 46 (.look [(.int .i64)] false (.int .i64 0) true (tm 41) (tm 45)),none⟩,⟨6,0,63,oS 40 (.mv (tm 46)),none⟩,⟨7,0,127,oS 47 (.extr (tm
 40) 0),none⟩,⟨8,0,127,oS 48 (.extr (tm 40) 1),none⟩,⟨9,0,255,oS 10 (.mv (tm 47)),none⟩,⟨10,0,1023,oS 11 (.mv (tm 48)),none⟩]) ( .seq (.seq (.region 0 [oS 49 (.mv (tm 11)),oS 50 (.un .not (tm 49))]) (
 .cond (tm 50) ( .exit 3) ( .skip))) ( .seq (.region 0 [oS 51 (.load none (tm 8)),oS 52 (.mv (tm 9)),oS 53 (.idxA none 1 (tm 51) (tm 52)),oN (.store 1 (tm 53) (ci 1))]) ( .seq (.region 0 [oS 54 (.mv
 (tm 9)),oS 55 (.bin .add (tm 54) (ci 1)),oS 12 (.mv (tm 55))]) ( .block 4 ( .loop ( .seq (.seq (.region 0 [oS 56 (.mv (tm 12)),oS 57 (.load none (tm 2)),oS 58 (.ln (tm 57)),oS 59 (.bin .lss (tm 56)
 (tm 58))]) ( .cond (tm 59) ( .skip) ( .exit 4))) ( .seq (.block 5 ( .seq (.draw 0 [⟨0,0,0,oS 62 (.load none (tm 8)),none⟩,⟨1,0,0,oS 63 (.mv (tm 12)),none⟩,⟨2,0,3,oS 64 (.idxA none 1 (tm 62) (tm
 63)),none⟩,⟨3,0,7,oS 65 (.load none (tm 64)),none⟩,⟨4,0,15,oS 66 (.bin .gtr (tm 65) (ci 0)),none⟩,⟨5,0,31,oS 67 (.mv (tm 66)),none⟩,⟨6,0,63,oG 68 (.load none (tm 5)) 67 true,none⟩,⟨7,0,63,oG 69
 (.load none (tm 2)) 67 true,none⟩,⟨8,0,63,oG 70 (.mv (tm 12)) 67 true,none⟩,⟨9,0,447,oG 71 (.idxA none 1 (tm 69) (tm 70)) 67 true,none⟩,⟨10,0,959,oG 72 (.load none (tm 71)) 67
 true,none⟩,⟨11,0,2047,oG 73 (.look [(.int .i64)] false (.int .i64 0) false (tm 68) (tm 72)) 67 true,none⟩,⟨12,0,63,oG 74 (.mv (tm 10)) 67 true,none⟩,⟨13,0,8191,oG 75 (.bin .gtr (tm 73) (tm 74)) 67
 true,none⟩,⟨14,0,16383,oS 76 (.pick (tm 67) (tm 75) (.const (.bool false))),none⟩]) ( .cond (tm 76) ( .draw 0 [⟨0,0,0,oS 77 (.load none (tm 8)),none⟩,⟨1,0,0,oS 78 (.mv (tm 9)),none⟩,⟨2,0,0,oS 79
 (.load none (tm 8)),none⟩,⟨3,0,0,oS 80 (.mv (tm 9)),none⟩,⟨4,0,12,oS 81 (.idxA none 1 (tm 79) (tm 80)),none⟩,⟨5,0,28,oS 82 (.load none (tm 81)),none⟩,⟨6,0,0,oS 83 (.load none (tm 8)),none⟩,⟨7,0,0,oS
 84 (.mv (tm 12)),none⟩,⟨8,0,192,oS 85 (.idxA none 1 (tm 83) (tm 84)),none⟩,⟨9,0,448,oS 86 (.load none (tm 85)),none⟩,⟨10,0,960,oS 87 (.bin .add (tm 86) (ci 1)),none⟩,⟨11,0,2044,oS 88 (.maxb [(tm
 82),(tm 87)]),none⟩,⟨12,0,4095,oS 89 (.idxA none 1 (tm 77) (tm 78)),none⟩,⟨13,0,8191,oN (.store 1 (tm 89) (tm 88)),none⟩]) ( .skip)))) ( .region 0 [oS 60 (.mv (tm 12)),oS 61 (.bin .add (tm 60) (ci
 1)),oS 12 (.mv (tm 61))])))))))))) ( .region 0 [oS 38 (.mv (tm 9)),oS 39 (.bin .sub (tm 38) (ci 1)),oS 9 (.mv (tm 39))])))))) ( .seq (.region 0 [oS 13 (.mv (ci 0))]) ( .seq (.seq (.region 0 [oS 90
 (.load none (tm 8)),oS 91 (.ln (tm 90)),oS 92 (.mv (ci 0))]) ( .block 6 ( .loop ( .seq (.region 0 [oS 93 (.bin .lss (tm 92) (tm 91))]) ( .seq (.cond (tm 93) ( .skip) ( .exit 6)) ( .seq (.block 7 (
 .seq (.region 0 [oS 94 (.idxA none 1 (tm 90) (tm 92)),oS 95 (.load none (tm 94)),oS 15 (.mv (tm 95))]) ( .region 0 [oS 96 (.mv (tm 13)),oS 97 (.mv (tm 15)),oS 98 (.maxb [(tm 96),(tm 97)]),oS 13 (.mv
 (tm 98))]))) ( .region 0 [oS 99 (.bin .add (tm 92) (ci 1)),oS 92 (.mv (tm 99))]))))))) ( .seq (.region 1 [oS 16 (.alloc 25 [(.slice none 0 0)])]) ( .seq (.region 1 [oS 17 (.alloc 137 [.nilFunc])]) (
 .seq (.region 0 [oS 100 (.mkfn (.func 76) [] [(tm 2),(tm 8),(tm 5),(tm 16),(tm 17)]),oN (.store 1 (tm 17) (tm 100))]) ( .seq (.region 0 [oS 101 (.load none (tm 17)),oS 102 (.mv (tm 13)),oS 103 (.call
 (tm 101) [(ci 0),(.const (.int .i64 (-1))),(tm 102)])]) ( .seq (.region 0 [oS 104 (.load none (tm 16)),oS 4 (.mv (tm 104))]) ( .ret))))))))))))⟩
def f52 : IFn:=⟨6,[],.region 0 [oS 2 (.mv (tm 0)),oS 3 (.bin .eql (tm 2) (ci 0)),oS 4 (.mv (tm 0)),oS 5 (.call (.func 54) [(tm 3),(tm 4)])]⟩
def f53 : IFn:=⟨68,[.tmp 2],.seq (.region 1 [oS 1 (.box 24 (tm 0)),oS 2 (.mv (ci 0))]) ( .seq (.seq (.region 0 [oS 5 (.fldA 0 (tm 1)),oS 6 (.load none (tm 5)),oS 7 (.bin .gtr (tm 6) (ci 24))]) ( .cond (tm 7) ( .seq
 (.region 0 [oS 2 (.mv (ci 2))]) ( .ret)) ( .skip))) ( .seq (.seq (.region 0 [oS 8 (.fldA 0 (tm 1)),oS 9 (.load none (tm 8)),oS 10 (.bin .lss (tm 9) (ci 0))]) ( .cond (tm 10) ( .seq (.region 0 [oS 2
 (.mv (ci 1))]) ( .ret)) ( .skip))) ( .seq (.seq (.region 0 [oS 11 (.fldA 1 (tm 1)),oS 12 (.load none (tm 11)),oS 13 (.ln (tm 12)),oS 14 (.mv (ci 0))]) ( .block 0 ( .loop ( .seq (.region 0 [oS 15
 (.bin .lss (tm 14) (tm 13))]) ( .seq (.cond (tm 15) ( .skip) ( .exit 0)) ( .seq (.block 1 ( .seq (.region 1 [oS 16 (.mv (tm 14)),oS 17 (.idxA none 4 (tm 12) (tm 14)),oS 18 (.load (some 4) (tm 17)),oS
 4 (.alloc 86 [(.int .i64 0),(.int .i64 0),(.int .i64 0),(.int .i64 0)]),oS 3 (.mv (tm 16)),oN (.store 4 (tm 4) (tm 18))]) ( .seq (.seq (.region 0 [oS 19 (.fldA 0 (tm 4)),oS 20 (.load none (tm 19)),oS
 21 (.fldA 0 (tm 1)),oS 22 (.load none (tm 21)),oS 23 (.bin .sub (tm 22) (ci 1)),oS 24 (.call (.func 79) [(tm 20),(ci 0),(tm 23)]),oS 25 (.un .not (tm 24)),oS 26 (.mv (tm 25)),oG 27 (.fldA 1 (tm 4))
 26 false,oG 28 (.load none (tm 27)) 26 false,oG 29 (.fldA 0 (tm 1)) 26 false,oG 30 (.load none (tm 29)) 26 false,oG 31 (.bin .sub (tm 30) (ci 1)) 26 false,oG 32 (.call (.func 79) [(tm 28),(ci 0),(tm
 31)]) 26 false,oG 33 (.un .not (tm 32)) 26 false,oS 34 (.pick (tm 26) (.const (.bool true)) (tm 33)),oS 35 (.mv (tm 34)),oG 36 (.fldA 0 (tm 4)) 35 false,oG 37 (.load none (tm 36)) 35 false,oG 38
 (.fldA 1 (tm 4)) 35 false,oG 39 (.load none (tm 38)) 35 false,oG 40 (.bin .eql (tm 37) (tm 39)) 35 false,oS 41 (.pick (tm 35) (.const (.bool true)) (tm 40)),oS 42 (.mv (tm 41)),oG 43 (.fldA 2 (tm 4))
 42 false,oG 44 (.load none (tm 43)) 42 false,oG 45 (.call (.func 79) [(tm 44),(ci 0),(ci 23)]) 42 false,oG 46 (.un .not (tm 45)) 42 false,oS 47 (.pick (tm 42) (.const (.bool true)) (tm 46)),oS 48
 (.mv (tm 47)),oG 49 (.fldA 3 (tm 4)) 48 false,oG 50 (.load none (tm 49)) 48 false,oG 51 (.call (.func 79) [(tm 50),(ci 1),(ci 1000)]) 48 false,oG 52 (.un .not (tm 51)) 48 false,oS 53 (.pick (tm 48)
 (.const (.bool true)) (tm 52))]) ( .cond (tm 53) ( .seq (.region 0 [oS 2 (.mv (ci 1))]) ( .ret)) ( .skip))) ( .seq (.draw 0 [⟨0,0,0,oS 54 (.mv (tm 3)),none⟩,⟨1,0,1,oS 55 (.bin .gtr (tm 54) (ci
 0)),none⟩,⟨2,0,3,oS 56 (.mv (tm 55)),none⟩,⟨3,0,7,oG 57 (.fldA 1 (tm 1)) 56 true,none⟩,⟨4,0,15,oG 58 (.load none (tm 57)) 56 true,none⟩,⟨5,0,7,oG 59 (.mv (tm 3)) 56 true,none⟩,⟨6,0,39,oG 60 (.bin
 .sub (tm 59) (ci 1)) 56 true,none⟩,⟨7,0,127,oG 61 (.idxA none 4 (tm 58) (tm 60)) 56 true,none⟩,⟨8,0,255,oG 62 (.load (some 4) (tm 61)) 56 true,none⟩,⟨9,0,7,oG 63 (.load (some 4) (tm 4)) 56
 true,none⟩,⟨10,0,1023,oG 64 (.call (.func 80) [(tm 62),(tm 63)]) 56 true,none⟩,⟨11,0,2047,oG 65 (.bin .geq (tm 64) (ci 0)) 56 true,none⟩,⟨12,0,4095,oS 66 (.pick (tm 56) (tm 65) (.const (.bool
 false))),none⟩]) ( .cond (tm 66) ( .seq (.region 0 [oS 2 (.mv (ci 1))]) ( .ret)) ( .skip)))))) ( .region 0 [oS 67 (.bin .add (tm 14) (ci 1)),oS 14 (.mv (tm 67))]))))))) ( .seq (.region 0 [oS 2 (.mv
 (ci 0))]) ( .ret)))))⟩
end Go.Gx.Z
