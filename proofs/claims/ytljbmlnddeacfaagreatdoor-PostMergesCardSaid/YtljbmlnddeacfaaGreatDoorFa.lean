/-
  Functions of this seat, as the abstract machine runs them (printed by a program of mine), part 1.
-/
import Derived.Test.YtljbmlnddeacfaaGreatDoorGk
import Derived.Lib.ItoaNum
import Derived.Lib.AtoiAll
import Derived.Lib.Strings
import Derived.Lib.Bytealg

set_option linter.all false
set_option linter.deprecated false

namespace Go.Gx.B
open Go.Gx
/-- sennet/sennetlaw08.PostMerges -/
def f7 : IFn := ⟨136,[.tmp 6],.seq (.region 0 [oS 6 (.mv (.const (.bool false)))]) ( .seq (.seq (.region 0 [oS 23 (.mv (tm 0)),oS 24 (.call (.func 25) [(tm 23)]),oS 25 (.mv (tm 24)),oG 26 (.mv (tm 1)) 25 false,oG 27
 (.call (.func 25) [(tm 26)]) 25 false,oS 28 (.pick (tm 25) (.const (.bool true)) (tm 27)),oS 29 (.mv (tm 28)),oG 30 (.mv (tm 2)) 29 false,oG 31 (.call (.func 25) [(tm 30)]) 29 false,oS 32 (.pick (tm
 29) (.const (.bool true)) (tm 31))]) ( .cond (tm 32) ( .seq (.region 0 [oS 33 (.call (.func 16) []),oS 6 (.mv (tm 33))]) ( .ret)) ( .skip))) ( .seq (.region 0 [oS 35 (.mv (tm 0)),oS 36 (.mv (tm
 1)),oS 37 (.call (.func 39) [(tm 35),(tm 36)]),oS 34 (.mv (tm 37)),oS 38 (.extr (tm 34) 0),oS 39 (.extr (tm 34) 1),oS 7 (.mv (tm 38)),oS 8 (.mv (tm 39))]) ( .seq (.region 0 [oS 41 (.mv (tm 1)),oS 42
 (.mv (tm 0)),oS 43 (.call (.func 39) [(tm 41),(tm 42)]),oS 40 (.mv (tm 43)),oS 44 (.extr (tm 40) 0),oS 45 (.extr (tm 40) 1),oS 9 (.mv (tm 44)),oS 10 (.mv (tm 45))]) ( .seq (.seq (.region 0 [oS 46
 (.mv (tm 8)),oS 47 (.mv (tm 10)),oS 48 (.bin .neq (tm 46) (tm 47)),oS 49 (.mv (tm 48)),oG 50 (.mv (tm 7)) 49 false,oG 51 (.mv (tm 9)) 49 false,oG 52 (.call (.func 23) [(tm 50),(tm 51)]) 49 false,oG
 53 (.un .not (tm 52)) 49 false,oS 54 (.pick (tm 49) (.const (.bool true)) (tm 53))]) ( .cond (tm 54) ( .seq (.region 0 [oS 6 (.mv (.const (.bool false)))]) ( .ret)) ( .skip))) ( .seq (.seq (.region 0
 [oS 55 (.mv (tm 8)),oS 56 (.bin .neq (tm 55) (ci 0))]) ( .cond (tm 56) ( .seq (.region 0 [oS 57 (.call (.func 16) []),oS 6 (.mv (tm 57))]) ( .ret)) ( .skip))) ( .seq (.region 0 [oS 59 (.mv (tm 0)),oS
 60 (.mv (tm 0)),oS 61 (.call (.func 39) [(tm 59),(tm 60)]),oS 58 (.mv (tm 61)),oS 62 (.extr (tm 58) 0),oS 63 (.extr (tm 58) 1),oS 11 (.mv (tm 62)),oS 12 (.mv (tm 63))]) ( .seq (.seq (.region 0 [oS 64
 (.mv (tm 12)),oS 65 (.bin .neq (tm 64) (ci 0)),oS 66 (.mv (tm 65)),oG 67 (.mv (tm 11)) 66 false,oG 68 (.mv (tm 0)) 66 false,oG 69 (.call (.func 23) [(tm 67),(tm 68)]) 66 false,oG 70 (.un .not (tm
 69)) 66 false,oS 71 (.pick (tm 66) (.const (.bool true)) (tm 70)),oS 72 (.mv (tm 71)),oG 73 (.mv (tm 7)) 72 false,oG 74 (.call (.func 40) [(tm 73)]) 72 false,oG 75 (.bin .neq (tm 74) (ci 0)) 72
 false,oS 76 (.pick (tm 72) (.const (.bool true)) (tm 75))]) ( .cond (tm 76) ( .seq (.region 0 [oS 6 (.mv (.const (.bool false)))]) ( .ret)) ( .skip))) ( .seq (.region 1 [oS 77 (.mv (tm 0)),oS 78
 (.call (.func 41) [(tm 77)]),oS 13 (.alloc 26 (reps 8 (.int .i64 0))),oN (.store 8 (tm 13) (tm 78))]) ( .seq (.region 1 [oS 79 (.mv (tm 1)),oS 80 (.call (.func 41) [(tm 79)]),oS 14 (.alloc 26 (reps 8
 (.int .i64 0))),oN (.store 8 (tm 14) (tm 80))]) ( .seq (.region 1 [oS 81 (.mv (tm 7)),oS 82 (.call (.func 41) [(tm 81)]),oS 15 (.alloc 26 (reps 8 (.int .i64 0))),oN (.store 8 (tm 15) (tm 82))]) (
 .seq (.seq (.region 0 [oS 16 (.mv (ci 0))]) ( .block 0 ( .loop ( .seq (.seq (.region 0 [oS 83 (.mv (tm 16)),oS 84 (.bin .lss (tm 83) (ci 8))]) ( .cond (tm 84) ( .skip) ( .exit 0))) ( .seq (.block 1 (
 .seq (.draw 0 [⟨0,0,0,oS 87 (.mv (tm 16)),none⟩,⟨1,0,0,oS 88 (.fldA 0 (tm 15)),none⟩,⟨2,0,3,oS 89 (.idxA (some 8) 1 (tm 88) (tm 87)),none⟩,⟨3,0,7,oS 90 (.load none (tm 89)),none⟩,⟨4,0,0,oS 91 (.mv
 (tm 16)),none⟩,⟨5,0,0,oS 92 (.fldA 0 (tm 13)),none⟩,⟨6,0,48,oS 93 (.idxA (some 8) 1 (tm 92) (tm 91)),none⟩,⟨7,0,112,oS 94 (.load none (tm 93)),none⟩,⟨8,0,0,oS 95 (.mv (tm 16)),none⟩,⟨9,0,0,oS 96
 (.fldA 0 (tm 14)),none⟩,⟨10,0,768,oS 97 (.idxA (some 8) 1 (tm 96) (tm 95)),none⟩,⟨11,0,1792,oS 98 (.load none (tm 97)),none⟩,⟨12,0,4080,oS 99 (.maxb [(tm 94),(tm 98)]),none⟩,⟨13,0,8191,oS 100 (.bin
 .neq (tm 90) (tm 99)),none⟩]) ( .cond (tm 100) ( .seq (.region 0 [oS 6 (.mv (.const (.bool false)))]) ( .ret)) ( .skip)))) ( .region 0 [oS 85 (.mv (tm 16)),oS 86 (.bin .add (tm 85) (ci 1)),oS 16 (.mv
 (tm 86))])))))) ( .seq (.region 0 [oS 102 (.mv (tm 7)),oS 103 (.mv (tm 2)),oS 104 (.call (.func 39) [(tm 102),(tm 103)]),oS 101 (.mv (tm 104)),oS 105 (.extr (tm 101) 0),oS 106 (.extr (tm 101) 1),oS
 17 (.mv (tm 105)),oS 18 (.mv (tm 106))]) ( .seq (.region 0 [oS 108 (.mv (tm 1)),oS 109 (.mv (tm 2)),oS 110 (.call (.func 39) [(tm 108),(tm 109)]),oS 107 (.mv (tm 110)),oS 111 (.extr (tm 107) 0),oS
 112 (.extr (tm 107) 1),oS 19 (.mv (tm 111)),oS 20 (.mv (tm 112))]) ( .seq (.seq (.region 0 [oS 113 (.mv (tm 18)),oS 114 (.bin .neq (tm 113) (ci 0)),oS 115 (.mv (tm 114)),oG 116 (.mv (tm 20)) 115
 false,oG 117 (.bin .neq (tm 116) (ci 0)) 115 false,oS 118 (.pick (tm 115) (.const (.bool true)) (tm 117))]) ( .cond (tm 118) ( .seq (.region 0 [oS 119 (.call (.func 16) []),oS 6 (.mv (tm 119))]) (
 .ret)) ( .skip))) ( .seq (.region 0 [oS 121 (.mv (tm 0)),oS 122 (.mv (tm 19)),oS 123 (.call (.func 39) [(tm 121),(tm 122)]),oS 120 (.mv (tm 123)),oS 124 (.extr (tm 120) 0),oS 125 (.extr (tm 120)
 1),oS 21 (.mv (tm 124)),oS 22 (.mv (tm 125))]) ( .seq (.region 0 [oS 126 (.call (.func 16) []),oS 127 (.mv (tm 126)),oG 128 (.mv (tm 22)) 127 true,oG 129 (.bin .eql (tm 128) (ci 0)) 127 true,oS 130
 (.pick (tm 127) (tm 129) (.const (.bool false))),oS 131 (.mv (tm 130)),oG 132 (.mv (tm 21)) 131 true,oG 133 (.mv (tm 17)) 131 true,oG 134 (.call (.func 23) [(tm 132),(tm 133)]) 131 true,oS 135 (.pick
 (tm 131) (tm 134) (.const (.bool false))),oS 6 (.mv (tm 135))]) ( .ret)))))))))))))))))⟩
/-- sennet/sennetlaw08.greeted -/
def f16 : IFn := ⟨145,[.tmp 0],.seq (.region 0 [oS 0 (.mv (.const (.bool false)))]) ( .seq (.region 0 [oS 24 (.call (.func 17) [(ci 64)]),oS 23 (.mv (tm 24)),oS 25 (.extr (tm 23) 0),oS 26 (.extr (tm 23) 1),oS 1 (.mv
 (tm 25)),oS 2 (.mv (tm 26))]) ( .seq (.region 0 [oS 28 (.call (.func 17) [(ci 64)]),oS 27 (.mv (tm 28)),oS 29 (.extr (tm 27) 0),oS 30 (.extr (tm 27) 1),oS 3 (.mv (tm 29)),oS 4 (.mv (tm 30))]) ( .seq
 (.region 0 [oS 32 (.mv (tm 1)),oS 33 (.call (.func 18) [(tm 32),(ci 0)]),oS 31 (.mv (tm 33)),oS 34 (.extr (tm 31) 0),oS 35 (.extr (tm 31) 1),oS 5 (.mv (tm 34)),oS 6 (.mv (tm 35))]) ( .seq (.region 0
 [oS 37 (.mv (tm 3)),oS 38 (.call (.func 18) [(tm 37),(ci 1)]),oS 36 (.mv (tm 38)),oS 39 (.extr (tm 36) 0),oS 40 (.extr (tm 36) 1),oS 7 (.mv (tm 39)),oS 8 (.mv (tm 40))]) ( .seq (.seq (.region 0 [oS
 41 (.mv (tm 6)),oS 42 (.bin .neq (tm 41) (ci 0)),oS 43 (.mv (tm 42)),oG 44 (.mv (tm 8)) 43 false,oG 45 (.bin .neq (tm 44) (ci 0)) 43 false,oS 46 (.pick (tm 43) (.const (.bool true)) (tm 45)),oS 47
 (.mv (tm 46)),oG 48 (.mv (tm 5)) 47 false,oG 49 (.eqn .ptr false (tm 48) (.const (.pointer none))) 47 false,oS 50 (.pick (tm 47) (.const (.bool true)) (tm 49)),oS 51 (.mv (tm 50)),oG 52 (.mv (tm 7))
 51 false,oG 53 (.eqn .ptr false (tm 52) (.const (.pointer none))) 51 false,oS 54 (.pick (tm 51) (.const (.bool true)) (tm 53))]) ( .cond (tm 54) ( .seq (.region 0 [oS 0 (.mv (.const (.bool false)))])
 ( .ret)) ( .skip))) ( .seq (.region 0 [oS 56 (.mv (tm 5)),oS 57 (.call (.func 19) [(tm 56),(ci 5),(.const (.string ⟨#[97]⟩))]),oS 55 (.mv (tm 57)),oS 58 (.extr (tm 55) 0),oS 59 (.extr (tm 55) 1),oS 9
 (.mv (tm 58)),oS 10 (.mv (tm 59))]) ( .seq (.region 0 [oS 61 (.mv (tm 5)),oS 62 (.call (.func 19) [(tm 61),(ci 5),(.const (.string ⟨#[98]⟩))]),oS 60 (.mv (tm 62)),oS 63 (.extr (tm 60) 0),oS 64 (.extr
 (tm 60) 1),oS 11 (.mv (tm 63)),oS 12 (.mv (tm 64))]) ( .seq (.region 0 [oS 66 (.mv (tm 5)),oS 67 (.call (.func 19) [(tm 66),(ci 4),(.const (.string ⟨#[99]⟩))]),oS 65 (.mv (tm 67)),oS 68 (.extr (tm
 65) 0),oS 69 (.extr (tm 65) 1),oS 13 (.mv (tm 68)),oS 14 (.mv (tm 69))]) ( .seq (.region 0 [oS 71 (.mv (tm 7)),oS 72 (.call (.func 19) [(tm 71),(ci 5),(.const (.string ⟨#[120]⟩))]),oS 70 (.mv (tm
 72)),oS 73 (.extr (tm 70) 0),oS 74 (.extr (tm 70) 1),oS 15 (.mv (tm 73)),oS 16 (.mv (tm 74))]) ( .seq (.region 0 [oS 76 (.mv (tm 7)),oS 77 (.mv (tm 5)),oS 78 (.call (.func 68) [(tm 77)]),oS 79 (.call
 (.func 20) [(tm 76),(tm 78)]),oS 75 (.mv (tm 79)),oS 80 (.extr (tm 75) 0),oS 81 (.extr (tm 75) 1),oS 17 (.mv (tm 80)),oS 18 (.mv (tm 81))]) ( .seq (.region 0 [oS 83 (.mv (tm 5)),oS 84 (.mv (tm
 17)),oS 85 (.call (.func 20) [(tm 83),(tm 84)]),oS 82 (.mv (tm 85)),oS 86 (.extr (tm 82) 0),oS 87 (.extr (tm 82) 1),oS 19 (.mv (tm 86)),oS 20 (.mv (tm 87))]) ( .seq (.region 0 [oS 88 (.mv (tm 5)),oS
 89 (.call (.func 22) [(tm 88)]),oS 21 (.mv (tm 89))]) ( .seq (.region 0 [oS 90 (.mv (tm 10)),oS 91 (.bin .eql (tm 90) (ci 0)),oS 92 (.mv (tm 91)),oG 93 (.mv (tm 12)) 92 true,oG 94 (.bin .eql (tm 93)
 (ci 0)) 92 true,oS 95 (.pick (tm 92) (tm 94) (.const (.bool false))),oS 96 (.mv (tm 95)),oG 97 (.mv (tm 14)) 96 true,oG 98 (.bin .eql (tm 97) (ci 7)) 96 true,oS 99 (.pick (tm 96) (tm 98) (.const
 (.bool false))),oS 100 (.mv (tm 99)),oG 101 (.mv (tm 16)) 100 true,oG 102 (.bin .eql (tm 101) (ci 0)) 100 true,oS 103 (.pick (tm 100) (tm 102) (.const (.bool false))),oS 104 (.mv (tm 103)),oG 105
 (.mv (tm 18)) 104 true,oG 106 (.bin .eql (tm 105) (ci 0)) 104 true,oS 107 (.pick (tm 104) (tm 106) (.const (.bool false))),oS 108 (.mv (tm 107)),oG 109 (.mv (tm 20)) 108 true,oG 110 (.bin .eql (tm
 109) (ci 0)) 108 true,oS 111 (.pick (tm 108) (tm 110) (.const (.bool false))),oS 112 (.mv (tm 111)),oG 113 (.mv (tm 9)) 112 true,oG 114 (.bin .eql (tm 113) (ci 1)) 112 true,oS 115 (.pick (tm 112) (tm
 114) (.const (.bool false))),oS 116 (.mv (tm 115)),oG 117 (.mv (tm 11)) 116 true,oG 118 (.bin .eql (tm 117) (ci 2)) 116 true,oS 119 (.pick (tm 116) (tm 118) (.const (.bool false))),oS 120 (.mv (tm
 119)),oG 121 (.mv (tm 15)) 120 true,oG 122 (.bin .eql (tm 121) (ci 1)) 120 true,oS 123 (.pick (tm 120) (tm 122) (.const (.bool false))),oS 22 (.mv (tm 123))]) ( .seq (.region 0 [oS 124 (.mv (tm
 22)),oS 125 (.mv (tm 124)),oG 126 (.mv (tm 17)) 125 true,oG 127 (.bin .eql (tm 126) (.const (.string ⟨#[110,111,116,101,115,32,49,10,49,32,49,32,53,32,49,10,120,10]⟩))) 125 true,oS 128 (.pick (tm
 125) (tm 127) (.const (.bool false))),oS 129 (.mv (tm 128)),oG 130 (.mv (tm 19)) 129 true,oG 131 (.bin .eql (tm 130) (.const (.string
 ⟨#[104,97,118,101,32,50,32,49,32,48,32,48,32,48,32,48,32,48,32,48,10]⟩))) 129 true,oS 132 (.pick (tm 129) (tm 131) (.const (.bool false))),oS 133 (.mv (tm 132)),oG 134 (.mv (tm 21)) 133 true,oG 135
 (.ln (tm 134)) 133 true,oG 136 (.bin .eql (tm 135) (ci 3)) 133 true,oS 137 (.pick (tm 133) (tm 136) (.const (.bool false))),oS 138 (.mv (tm 137)),oG 139 (.mv (tm 21)) 138 true,oG 140 (.idxA none 4
 (tm 139) (ci 2)) 138 true,oG 141 (.load (some 4) (tm 140)) 138 true,oG 142 (.build [(.int .i64 0),(.int .i64 0),(.int .i64 0),(.string ⟨#[]⟩)] [(0,1,(ci 1)),(1,1,(ci 1)),(2,1,(ci 5)),(3,1,(.const
 (.string ⟨#[120]⟩)))]) 138 true,oG 143 (.eqc false [(.int .i64),(.int .i64),(.int .i64),.str] true (tm 141) (tm 142)) 138 true,oS 144 (.pick (tm 138) (tm 143) (.const (.bool false))),oS 0 (.mv (tm
 144))]) ( .ret)))))))))))))))⟩
/-- sennet/post.NewDisk -/
def f17 : IFn := ⟨16,[.tmp 2,.tmp 3],.seq (.region 0 [oS 2 (.mv (.const (.pointer none))),oS 3 (.mv (ci 0))]) ( .seq (.seq (.region 0 [oS 4 (.mv (tm 0)),oS 5 (.bin .lss (tm 4) (ci 16)),oS 6 (.mv (tm 5)),oG 7 (.mv (tm
 0)) 6 false,oG 8 (.bin .gtr (tm 7) (ci 65536)) 6 false,oS 9 (.pick (tm 6) (.const (.bool true)) (tm 8))]) ( .cond (tm 9) ( .seq (.region 0 [oS 2 (.mv (.const (.pointer none))),oS 3 (.mv (ci 1))]) (
 .ret)) ( .skip))) ( .seq (.draw 3 [⟨0,0,0,oS 10 (.mv (tm 0)),none⟩,⟨1,0,1,oS 11 (.mksl 153 64 64 (reps 64 (.int .u8 0)) (tm 10) (tm 10)),none⟩,⟨2,1,0,oS 12 (.mv (tm 0)),none⟩,⟨3,1,4,oS 13 (.mksl 153
 64 64 (reps 64 (.int .u8 0)) (tm 12) (tm 12)),none⟩,⟨4,2,15,oS 14 (.build [(.slice none 0 0),(.slice none 0 0),(.slice none 0 0),(.bool false),(.int .i64 0)] [(0,1,(tm 11)),(1,1,(tm 13)),(4,1,(.const
 (.int .i64 (-1))))]),none⟩,⟨5,2,31,oS 15 (.box 124 (tm 14)),none⟩,⟨6,3,63,oS 2 (.mv (tm 15)),none⟩,⟨7,3,127,oS 3 (.mv (ci 0)),none⟩]) ( .ret)))⟩
/-- sennet/post.Start -/
def f18 : IFn := ⟨43,[.tmp 4,.tmp 5],.seq (.region 0 [oS 4 (.mv (.const (.pointer none))),oS 5 (.mv (ci 0))]) ( .seq (.seq (.region 0 [oS 12 (.mv (tm 1)),oS 13 (.bin .lss (tm 12) (ci 0)),oS 14 (.mv (tm 13)),oG 15 (.mv
 (tm 1)) 14 false,oG 16 (.bin .geq (tm 15) (ci 8)) 14 false,oS 17 (.pick (tm 14) (.const (.bool true)) (tm 16))]) ( .cond (tm 17) ( .seq (.region 0 [oS 4 (.mv (.const (.pointer none))),oS 5 (.mv (ci
 1))]) ( .ret)) ( .skip))) ( .seq (.region 0 [oS 19 (.mv (tm 0)),oS 20 (.call (.func 63) [(tm 19)]),oS 18 (.mv (tm 20)),oS 21 (.extr (tm 18) 0),oS 22 (.extr (tm 18) 1),oS 23 (.extr (tm 18) 2),oS 6
 (.mv (tm 21)),oS 7 (.mv (tm 22)),oS 8 (.mv (tm 23))]) ( .seq (.seq (.region 0 [oS 24 (.mv (tm 8)),oS 25 (.bin .neq (tm 24) (ci 0))]) ( .cond (tm 25) ( .seq (.region 0 [oS 26 (.mv (tm 8)),oS 4 (.mv
 (.const (.pointer none))),oS 5 (.mv (tm 26))]) ( .ret)) ( .skip))) ( .seq (.region 1 [oS 27 (.mv (tm 6)),oS 28 (.mv (tm 1)),oS 29 (.build ([(.pointer none)] ++ [(.int .i64 0)] ++ reps 8 (.slice none
 0 0)) [(0,1,(tm 27)),(1,1,(tm 28))]),oS 30 (.box 127 (tm 29)),oS 9 (.mv (tm 30))]) ( .seq (.seq (.region 0 [oS 31 (.mv (tm 7)),oS 32 (.ln (tm 31)),oS 33 (.mv (ci 0))]) ( .block 0 ( .loop ( .seq
 (.region 0 [oS 34 (.bin .lss (tm 33) (tm 32))]) ( .seq (.cond (tm 34) ( .skip) ( .exit 0)) ( .seq (.block 1 ( .seq (.region 0 [oS 35 (.idxA none 1 (tm 31) (tm 33)),oS 36 (.load none (tm 35)),oS 11
 (.mv (tm 36))]) ( .seq (.region 0 [oS 37 (.mv (tm 9)),oS 38 (.mv (tm 11)),oS 39 (.call (.func 74) [(tm 37),(tm 38)]),oS 40 (.un .not (tm 39))]) ( .cond (tm 40) ( .seq (.region 0 [oS 4 (.mv (.const
 (.pointer none))),oS 5 (.mv (ci 81))]) ( .ret)) ( .skip))))) ( .region 0 [oS 41 (.bin .add (tm 33) (ci 1)),oS 33 (.mv (tm 41))]))))))) ( .seq (.region 0 [oS 42 (.mv (tm 9)),oS 4 (.mv (tm 42)),oS 5
 (.mv (ci 0))]) ( .ret)))))))⟩
/-- (*sennet/post.Node).Write -/
def f19 : IFn := ⟨85,[.tmp 6,.tmp 7],.seq (.region 0 [oS 6 (.mv (ci 0)),oS 7 (.mv (ci 0))]) ( .seq (.block 0 ( .seq (.region 0 [oS 11 (.mv (tm 0)),oS 12 (.eqn .ptr false (tm 11) (.const (.pointer none))),oS 10 (.mv
 (tm 12))]) ( .cond (tm 10) ( .seq (.region 0 [oS 6 (.mv (ci 0)),oS 7 (.mv (ci 3))]) ( .ret)) ( .seq (.region 0 [oS 14 (.mv (tm 1)),oS 15 (.bin .lss (tm 14) (ci 0)),oS 16 (.mv (tm 15)),oG 17 (.mv (tm
 1)) 16 false,oG 18 (.bin .gtr (tm 17) (ci 100000)) 16 false,oS 19 (.pick (tm 16) (.const (.bool true)) (tm 18)),oS 13 (.mv (tm 19))]) ( .cond (tm 13) ( .seq (.region 0 [oS 6 (.mv (ci 0)),oS 7 (.mv
 (ci 1))]) ( .ret)) ( .seq (.draw 0 [⟨0,0,0,oS 21 (.mv (tm 2)),none⟩,⟨1,0,1,oS 22 (.sln (tm 21)),none⟩,⟨2,0,3,oS 23 (.bin .gtr (tm 22) (ci 8000)),none⟩,⟨3,0,7,oS 24 (.mv (tm 23)),none⟩,⟨4,0,15,oG 25
 (.mv (tm 0)) 24 false,none⟩,⟨5,0,15,oG 26 (.mv (tm 0)) 24 false,none⟩,⟨6,0,47,oG 27 (.nilc (tm 26)) 24 false,none⟩,⟨7,0,111,oG 28 (.fldA 1 (tm 27)) 24 false,none⟩,⟨8,0,239,oG 29 (.load none (tm 28))
 24 false,none⟩,⟨9,0,31,oG 30 (.nilc (tm 25)) 24 false,none⟩,⟨10,0,543,oG 31 (.fldA 2 (tm 30)) 24 false,none⟩,⟨11,0,2047,oG 32 (.idxA (some 8) 1 (tm 31) (tm 29)) 24 false,none⟩,⟨12,0,4095,oG 33 (.load
 none (tm 32)) 24 false,none⟩,⟨13,0,8191,oG 34 (.ln (tm 33)) 24 false,none⟩,⟨14,0,16383,oG 35 (.bin .geq (tm 34) (ci 2000)) 24 false,none⟩,⟨15,0,32767,oS 36 (.pick (tm 24) (.const (.bool true)) (tm
 35)),none⟩,⟨16,0,65535,oS 20 (.mv (tm 36)),none⟩]) ( .cond (tm 20) ( .seq (.region 0 [oS 6 (.mv (ci 0)),oS 7 (.mv (ci 2))]) ( .ret)) ( .seq (.draw 0 [⟨0,0,0,oS 38 (.mv (tm 0)),none⟩,⟨1,0,0,oS 39 (.mv
 (tm 0)),none⟩,⟨2,0,2,oS 40 (.nilc (tm 39)),none⟩,⟨3,0,6,oS 41 (.fldA 1 (tm 40)),none⟩,⟨4,0,14,oS 42 (.load none (tm 41)),none⟩,⟨5,0,1,oS 43 (.nilc (tm 38)),none⟩,⟨6,0,33,oS 44 (.fldA 2 (tm
 43)),none⟩,⟨7,0,127,oS 45 (.idxA (some 8) 1 (tm 44) (tm 42)),none⟩,⟨8,0,255,oS 46 (.load none (tm 45)),none⟩,⟨9,0,511,oS 47 (.ln (tm 46)),none⟩,⟨10,0,1023,oS 48 (.bin .gtr (tm 47) (ci
 0)),none⟩,⟨11,0,2047,oS 49 (.mv (tm 48)),none⟩,⟨12,0,4095,oG 50 (.mv (tm 1)) 49 true,none⟩,⟨13,0,4095,oG 51 (.mv (tm 0)) 49 true,none⟩,⟨14,0,4095,oG 52 (.mv (tm 0)) 49 true,none⟩,⟨15,0,20479,oG 53
 (.nilc (tm 52)) 49 true,none⟩,⟨16,0,53247,oG 54 (.fldA 1 (tm 53)) 49 true,none⟩,⟨17,0,118783,oG 55 (.load none (tm 54)) 49 true,none⟩,⟨18,0,258047,oG 56 (.call (.func 75) [(tm 51),(tm 55)]) 49
 true,none⟩,⟨19,0,524287,oG 57 (.bin .lss (tm 50) (tm 56)) 49 true,none⟩,⟨20,0,1048575,oS 58 (.pick (tm 49) (tm 57) (.const (.bool false))),none⟩,⟨21,0,2097151,oS 37 (.mv (tm 58)),none⟩]) ( .cond (tm
 37) ( .seq (.region 0 [oS 6 (.mv (ci 0)),oS 7 (.mv (ci 7))]) ( .ret)) ( .skip)))))))))) ( .seq (.draw 0 [⟨0,0,0,oS 59 (.mv (tm 0)),none⟩,⟨1,0,0,oS 60 (.mv (tm 0)),none⟩,⟨2,0,2,oS 61 (.nilc (tm
 60)),none⟩,⟨3,0,6,oS 62 (.fldA 1 (tm 61)),none⟩,⟨4,0,14,oS 63 (.load none (tm 62)),none⟩,⟨5,0,1,oS 64 (.nilc (tm 59)),none⟩,⟨6,0,33,oS 65 (.fldA 2 (tm 64)),none⟩,⟨7,0,127,oS 66 (.idxA (some 8) 1 (tm
 65) (tm 63)),none⟩,⟨8,0,255,oS 67 (.load none (tm 66)),none⟩,⟨9,0,511,oS 68 (.ln (tm 67)),none⟩,⟨10,0,1023,oS 69 (.bin .add (tm 68) (ci 1)),none⟩,⟨11,0,2047,oS 8 (.mv (tm 69)),none⟩]) ( .seq (.seq
 (.region 1 [oS 70 (.mv (tm 0)),oS 71 (.mv (tm 0)),oS 72 (.nilc (tm 71)),oS 73 (.fldA 1 (tm 72)),oS 74 (.load none (tm 73)),oS 75 (.mv (tm 8)),oS 76 (.mv (tm 1)),oS 77 (.mv (tm 2)),oS 78 (.build
 [(.int .i64 0),(.int .i64 0),(.int .i64 0),(.string ⟨#[]⟩)] [(0,1,(tm 74)),(1,1,(tm 75)),(2,1,(tm 76)),(3,1,(tm 77))]),oS 79 (.bslice 104 4 [(.int .i64 0),(.int .i64 0),(.int .i64 0),(.string ⟨#[]⟩)]
 1 [(0,4,(tm 78))]),oS 80 (.call (.func 76) [(tm 70),(tm 79)]),oS 9 (.mv (tm 80))]) ( .seq (.region 0 [oS 81 (.mv (tm 9)),oS 82 (.bin .neq (tm 81) (ci 0))]) ( .cond (tm 82) ( .seq (.region 0 [oS 83
 (.mv (tm 9)),oS 6 (.mv (ci 0)),oS 7 (.mv (tm 83))]) ( .ret)) ( .skip)))) ( .seq (.region 0 [oS 84 (.mv (tm 8)),oS 6 (.mv (tm 84)),oS 7 (.mv (ci 0))]) ( .ret)))))⟩
/-- (*sennet/post.Node).Hear -/
def f20 : IFn := ⟨26,[.tmp 4,.tmp 5],.seq (.region 0 [oS 4 (.mv (.const (.string ⟨#[]⟩))),oS 5 (.mv (ci 0))]) ( .seq (.seq (.region 0 [oS 8 (.mv (tm 0)),oS 9 (.eqn .ptr false (tm 8) (.const (.pointer none)))]) ( .cond
 (tm 9) ( .seq (.region 0 [oS 4 (.mv (.const (.string ⟨#[]⟩))),oS 5 (.mv (ci 3))]) ( .ret)) ( .skip))) ( .seq (.seq (.region 0 [oS 10 (.mv (tm 1)),oS 11 (.call (.func 77) [(tm 10)])]) ( .block 0 (
 .seq (.region 0 [oS 12 (.tassert 133 (.agg (reps 8 (.int .i64 0)).toArray) true (tm 11)),oS 13 (.extr (tm 12) 1),oS 14 (.extr (tm 12) 0)]) ( .cond (tm 13) ( .seq (.region 1 [oS 6 (.alloc 133 (reps 8
 (.int .i64 0))),oN (.store 8 (tm 6) (tm 14))]) ( .seq (.region 0 [oS 15 (.mv (tm 0)),oS 16 (.load (some 8) (tm 6)),oS 17 (.call (.func 78) [(tm 15),(tm 16)]),oS 4 (.mv (tm 17)),oS 5 (.mv (ci 0))]) (
 .ret))) ( .seq (.region 0 [oS 18 (.tassert 135 (.slice none 0 0) true (tm 11)),oS 19 (.extr (tm 18) 1),oS 20 (.extr (tm 18) 0)]) ( .cond (tm 19) ( .seq (.region 0 [oS 7 (.mv (tm 20))]) ( .seq
 (.region 0 [oS 21 (.mv (tm 0)),oS 22 (.mv (tm 7)),oS 23 (.call (.func 79) [(tm 21),(tm 22)]),oS 24 (.extr (tm 23) 0),oS 25 (.extr (tm 23) 1),oS 4 (.mv (tm 24)),oS 5 (.mv (tm 25))]) ( .ret))) (
 .skip))))))) ( .seq (.region 0 [oS 4 (.mv (.const (.string ⟨#[]⟩))),oS 5 (.mv (ci 4))]) ( .ret))))⟩
/-- (*sennet/post.Node).Register -/
def f22 : IFn := ⟨20,[.tmp 2],.seq (.region 0 [oS 2 (.mv (.const (.slice none 0 0)))]) ( .seq (.seq (.region 0 [oS 6 (.mv (tm 0)),oS 7 (.eqn .ptr false (tm 6) (.const (.pointer none)))]) ( .cond (tm 7) ( .seq (.region
 0 [oS 2 (.mv (.const (.slice none 0 0)))]) ( .ret)) ( .skip))) ( .seq (.region 0 [oS 3 (.mv (.const (.slice none 0 0)))]) ( .seq (.seq (.region 0 [oS 8 (.mv (tm 0)),oS 9 (.nilc (tm 8)),oS 10 (.fldA 2
 (tm 9)),oS 11 (.load (some 8) (tm 10)),oS 12 (.mv (ci 0))]) ( .block 0 ( .loop ( .seq (.region 0 [oS 13 (.bin .lss (tm 12) (ci 8))]) ( .seq (.cond (tm 13) ( .skip) ( .exit 0)) ( .seq (.block 1 ( .seq
 (.region 0 [oS 14 (.idx 8 none 1 (tm 11) (tm 12)),oS 5 (.mv (tm 14))]) ( .region 0 [oS 15 (.mv (tm 3)),oS 16 (.mv (tm 5)),oS 17 (.call (.func 80) [(tm 15),(tm 16),(.func 81)]),oS 3 (.mv (tm 17))])))
 ( .region 0 [oS 18 (.bin .add (tm 12) (ci 1)),oS 12 (.mv (tm 18))]))))))) ( .seq (.region 0 [oS 19 (.mv (tm 3)),oS 2 (.mv (tm 19))]) ( .ret)))))⟩
/-- sennet/sennetref08.SameNotes -/
def f23 : IFn := ⟨26,[.tmp 4],.seq (.region 0 [oS 4 (.mv (.const (.bool false)))]) ( .seq (.seq (.region 0 [oS 6 (.mv (tm 0)),oS 7 (.ln (tm 6)),oS 8 (.mv (tm 1)),oS 9 (.ln (tm 8)),oS 10 (.bin .neq (tm 7) (tm 9))]) (
 .cond (tm 10) ( .seq (.region 0 [oS 4 (.mv (.const (.bool false)))]) ( .ret)) ( .skip))) ( .seq (.seq (.region 0 [oS 5 (.mv (ci 0))]) ( .block 0 ( .loop ( .seq (.seq (.region 0 [oS 11 (.mv (tm 5)),oS
 12 (.mv (tm 0)),oS 13 (.ln (tm 12)),oS 14 (.bin .lss (tm 11) (tm 13))]) ( .cond (tm 14) ( .skip) ( .exit 0))) ( .seq (.block 1 ( .seq (.draw 0 [⟨0,0,0,oS 17 (.mv (tm 0)),none⟩,⟨1,0,0,oS 18 (.mv (tm
 5)),none⟩,⟨2,0,3,oS 19 (.idxA none 4 (tm 17) (tm 18)),none⟩,⟨3,0,7,oS 20 (.load (some 4) (tm 19)),none⟩,⟨4,0,0,oS 21 (.mv (tm 1)),none⟩,⟨5,0,0,oS 22 (.mv (tm 5)),none⟩,⟨6,0,48,oS 23 (.idxA none 4 (tm
 21) (tm 22)),none⟩,⟨7,0,112,oS 24 (.load (some 4) (tm 23)),none⟩,⟨8,0,255,oS 25 (.eqc true [(.int .i64),(.int .i64),(.int .i64),.str] true (tm 20) (tm 24)),none⟩]) ( .cond (tm 25) ( .seq (.region 0
 [oS 4 (.mv (.const (.bool false)))]) ( .ret)) ( .skip)))) ( .region 0 [oS 15 (.mv (tm 5)),oS 16 (.bin .add (tm 15) (ci 1)),oS 5 (.mv (tm 16))])))))) ( .seq (.region 0 [oS 4 (.mv (.const (.bool
 true)))]) ( .ret))))⟩
/-- sennet/sennetlaw08.long -/
def f25 : IFn := ⟨24,[.tmp 2],.seq (.region 0 [oS 2 (.mv (.const (.bool false)))]) ( .seq (.seq (.region 0 [oS 5 (.mv (tm 0)),oS 6 (.ln (tm 5)),oS 7 (.bin .gtr (tm 6) (ci 80))]) ( .cond (tm 7) ( .seq (.region 0 [oS 2
 (.mv (.const (.bool true)))]) ( .ret)) ( .skip))) ( .seq (.region 0 [oS 3 (.mv (ci 0))]) ( .seq (.seq (.region 0 [oS 4 (.mv (ci 0))]) ( .block 0 ( .loop ( .seq (.seq (.region 0 [oS 8 (.mv (tm 4)),oS
 9 (.mv (tm 0)),oS 10 (.ln (tm 9)),oS 11 (.bin .lss (tm 8) (tm 10))]) ( .cond (tm 11) ( .skip) ( .exit 0))) ( .seq (.block 1 ( .region 0 [oS 14 (.mv (tm 3)),oS 15 (.mv (tm 0)),oS 16 (.mv (tm 4)),oS 17
 (.idxA none 4 (tm 15) (tm 16)),oS 18 (.fldA 3 (tm 17)),oS 19 (.load none (tm 18)),oS 20 (.sln (tm 19)),oS 21 (.bin .add (tm 14) (tm 20)),oS 3 (.mv (tm 21))])) ( .region 0 [oS 12 (.mv (tm 4)),oS 13
 (.bin .add (tm 12) (ci 1)),oS 4 (.mv (tm 13))])))))) ( .seq (.region 0 [oS 22 (.mv (tm 3)),oS 23 (.bin .gtr (tm 22) (ci 150000)),oS 2 (.mv (tm 23))]) ( .ret)))))⟩
/-- sennet/post.Merge -/
def f39 : IFn := ⟨62,[.tmp 4,.tmp 5],.seq (.region 0 [oS 4 (.mv (.const (.slice none 0 0))),oS 5 (.mv (ci 0))]) ( .seq (.seq (.region 0 [oS 13 (.mv (tm 0)),oS 14 (.call (.func 40) [(tm 13)]),oS 15 (.bin .neq (tm 14)
 (ci 0)),oS 16 (.mv (tm 15)),oG 17 (.mv (tm 1)) 16 false,oG 18 (.call (.func 40) [(tm 17)]) 16 false,oG 19 (.bin .neq (tm 18) (ci 0)) 16 false,oS 20 (.pick (tm 16) (.const (.bool true)) (tm 19))]) (
 .cond (tm 20) ( .seq (.region 0 [oS 4 (.mv (.const (.slice none 0 0))),oS 5 (.mv (ci 1))]) ( .ret)) ( .skip))) ( .seq (.region 1 [oS 21 (.mkmap),oS 6 (.mv (tm 21))]) ( .seq (.seq (.region 0 [oS 22
 (.mv (tm 0)),oS 23 (.ln (tm 22)),oS 24 (.mv (ci 0))]) ( .block 0 ( .loop ( .seq (.region 0 [oS 25 (.bin .lss (tm 24) (tm 23))]) ( .seq (.cond (tm 25) ( .skip) ( .exit 0)) ( .seq (.block 1 ( .seq
 (.region 1 [oS 26 (.idxA none 4 (tm 22) (tm 24)),oS 27 (.load (some 4) (tm 26)),oS 8 (.alloc 104 [(.int .i64 0),(.int .i64 0),(.int .i64 0),(.string ⟨#[]⟩)]),oN (.store 4 (tm 8) (tm 27))]) ( .region
 0 [oS 28 (.mv (tm 6)),oS 29 (.fldA 0 (tm 8)),oS 30 (.load none (tm 29)),oS 31 (.fldA 1 (tm 8)),oS 32 (.load none (tm 31)),oS 33 (.build [(.int .i64 0),(.int .i64 0)] [(0,1,(tm 30)),(1,1,(tm 32))]),oS
 34 (.load (some 4) (tm 8)),oN (.mset [(.int .i64),(.int .i64)] true (tm 28) (tm 33) (tm 34))]))) ( .region 0 [oS 35 (.bin .add (tm 24) (ci 1)),oS 24 (.mv (tm 35))]))))))) ( .seq (.seq (.region 0 [oS
 36 (.mv (tm 1)),oS 37 (.ln (tm 36)),oS 38 (.mv (ci 0))]) ( .block 2 ( .loop ( .seq (.region 0 [oS 39 (.bin .lss (tm 38) (tm 37))]) ( .seq (.cond (tm 39) ( .skip) ( .exit 2)) ( .seq (.block 3 ( .seq
 (.region 1 [oS 40 (.idxA none 4 (tm 36) (tm 38)),oS 41 (.load (some 4) (tm 40)),oS 10 (.alloc 104 [(.int .i64 0),(.int .i64 0),(.int .i64 0),(.string ⟨#[]⟩)]),oN (.store 4 (tm 10) (tm 41))]) ( .seq
 (.region 1 [oS 43 (.mv (tm 6)),oS 44 (.fldA 0 (tm 10)),oS 45 (.load none (tm 44)),oS 46 (.fldA 1 (tm 10)),oS 47 (.load none (tm 46)),oS 48 (.build [(.int .i64 0),(.int .i64 0)] [(0,1,(tm
 45)),(1,1,(tm 47))]),oS 49 (.look [(.int .i64),(.int .i64)] true (.agg #[(.int .i64 0),(.int .i64 0),(.int .i64 0),(.string ⟨#[]⟩)]) true (tm 43) (tm 48)),oS 42 (.mv (tm 49)),oS 50 (.extr (tm 42)
 0),oS 51 (.extr (tm 42) 1),oS 11 (.alloc 104 [(.int .i64 0),(.int .i64 0),(.int .i64 0),(.string ⟨#[]⟩)]),oN (.store 4 (tm 11) (tm 50)),oS 12 (.mv (tm 51))]) ( .seq (.region 0 [oS 52 (.mv (tm 12)),oS
 53 (.mv (tm 52)),oG 54 (.load (some 4) (tm 10)) 53 true,oG 55 (.load (some 4) (tm 11)) 53 true,oG 56 (.eqc true [(.int .i64),(.int .i64),(.int .i64),.str] true (tm 54) (tm 55)) 53 true,oS 57 (.pick
 (tm 53) (tm 56) (.const (.bool false)))]) ( .cond (tm 57) ( .seq (.region 0 [oS 4 (.mv (.const (.slice none 0 0))),oS 5 (.mv (ci 8))]) ( .ret)) ( .skip)))))) ( .region 0 [oS 58 (.bin .add (tm 38) (ci
 1)),oS 38 (.mv (tm 58))]))))))) ( .seq (.region 0 [oS 59 (.mv (tm 0)),oS 60 (.mv (tm 1)),oS 61 (.call (.func 80) [(tm 59),(tm 60),(.func 81)]),oS 4 (.mv (tm 61)),oS 5 (.mv (ci 0))]) ( .ret))))))⟩
/-- sennet/post.Check -/
def f40 : IFn := ⟨38,[.tmp 2],.seq (.region 0 [oS 2 (.mv (ci 0))]) ( .seq (.region 1 [oS 3 (.alloc 26 (reps 8 (.int .i64 0)))]) ( .seq (.seq (.region 0 [oS 6 (.mv (tm 0)),oS 7 (.call (.func 100) [(tm 6),(.func
 81)]),oS 8 (.un .not (tm 7))]) ( .cond (tm 8) ( .seq (.region 0 [oS 2 (.mv (ci 1))]) ( .ret)) ( .skip))) ( .seq (.seq (.region 0 [oS 9 (.mv (tm 0)),oS 10 (.ln (tm 9)),oS 11 (.mv (ci 0))]) ( .block 0
 ( .loop ( .seq (.region 0 [oS 12 (.bin .lss (tm 11) (tm 10))]) ( .seq (.cond (tm 12) ( .skip) ( .exit 0)) ( .seq (.block 1 ( .seq (.region 1 [oS 13 (.idxA none 4 (tm 9) (tm 11)),oS 14 (.load (some 4)
 (tm 13)),oS 5 (.alloc 104 [(.int .i64 0),(.int .i64 0),(.int .i64 0),(.string ⟨#[]⟩)]),oN (.store 4 (tm 5) (tm 14))]) ( .seq (.seq (.draw 0 [⟨0,0,0,oS 15 (.load (some 4) (tm 5)),none⟩,⟨1,0,1,oS 16
 (.call (.func 101) [(tm 15)]),none⟩,⟨2,0,3,oS 17 (.un .not (tm 16)),none⟩,⟨3,0,7,oS 18 (.mv (tm 17)),none⟩,⟨4,0,15,oG 19 (.fldA 1 (tm 5)) 18 false,none⟩,⟨5,0,31,oG 20 (.load none (tm 19)) 18
 false,none⟩,⟨6,0,15,oG 21 (.fldA 0 (tm 5)) 18 false,none⟩,⟨7,0,79,oG 22 (.load none (tm 21)) 18 false,none⟩,⟨8,0,15,oG 23 (.fldA 0 (tm 3)) 18 false,none⟩,⟨9,0,463,oG 24 (.idxA (some 8) 1 (tm 23) (tm
 22)) 18 false,none⟩,⟨10,0,975,oG 25 (.load none (tm 24)) 18 false,none⟩,⟨11,0,1999,oG 26 (.bin .add (tm 25) (ci 1)) 18 false,none⟩,⟨12,0,4095,oG 27 (.bin .neq (tm 20) (tm 26)) 18
 false,none⟩,⟨13,0,8191,oS 28 (.pick (tm 18) (.const (.bool true)) (tm 27)),none⟩]) ( .cond (tm 28) ( .seq (.region 0 [oS 2 (.mv (ci 1))]) ( .ret)) ( .skip))) ( .region 0 [oS 29 (.fldA 0 (tm 5)),oS 30
 (.load none (tm 29)),oS 31 (.fldA 0 (tm 3)),oS 32 (.idxA (some 8) 1 (tm 31) (tm 30)),oS 33 (.load none (tm 32)),oS 34 (.bin .add (tm 33) (ci 1)),oS 35 (.fldA 0 (tm 3)),oS 36 (.idxA (some 8) 1 (tm 35)
 (tm 30)),oN (.store 1 (tm 36) (tm 34))])))) ( .region 0 [oS 37 (.bin .add (tm 11) (ci 1)),oS 11 (.mv (tm 37))]))))))) ( .seq (.region 0 [oS 2 (.mv (ci 0))]) ( .ret)))))⟩
/-- sennet/post.Count -/
def f41 : IFn := ⟨30,[.cell 2 (some 8)],.seq (.region 1 [oS 2 (.alloc 26 (reps 8 (.int .i64 0)))]) ( .seq (.region 1 [oS 3 (.alloc 26 (reps 8 (.int .i64 0)))]) ( .seq (.seq (.region 0 [oS 6 (.mv (tm 0)),oS 7 (.ln (tm
 6)),oS 8 (.mv (ci 0))]) ( .block 0 ( .loop ( .seq (.region 0 [oS 9 (.bin .lss (tm 8) (tm 7))]) ( .seq (.cond (tm 9) ( .skip) ( .exit 0)) ( .seq (.block 1 ( .seq (.region 1 [oS 10 (.idxA none 4 (tm 6)
 (tm 8)),oS 11 (.load (some 4) (tm 10)),oS 5 (.alloc 104 [(.int .i64 0),(.int .i64 0),(.int .i64 0),(.string ⟨#[]⟩)]),oN (.store 4 (tm 5) (tm 11))]) ( .seq (.region 0 [oS 12 (.fldA 0 (tm 5)),oS 13
 (.load none (tm 12)),oS 14 (.bin .geq (tm 13) (ci 0)),oS 15 (.mv (tm 14)),oG 16 (.fldA 0 (tm 5)) 15 true,oG 17 (.load none (tm 16)) 15 true,oG 18 (.bin .lss (tm 17) (ci 8)) 15 true,oS 19 (.pick (tm
 15) (tm 18) (.const (.bool false)))]) ( .cond (tm 19) ( .region 0 [oS 20 (.fldA 0 (tm 5)),oS 21 (.load none (tm 20)),oS 22 (.fldA 0 (tm 3)),oS 23 (.idxA (some 8) 1 (tm 22) (tm 21)),oS 24 (.load none
 (tm 23)),oS 25 (.bin .add (tm 24) (ci 1)),oS 26 (.fldA 0 (tm 3)),oS 27 (.idxA (some 8) 1 (tm 26) (tm 21)),oN (.store 1 (tm 27) (tm 25))]) ( .skip))))) ( .region 0 [oS 28 (.bin .add (tm 8) (ci 1)),oS
 8 (.mv (tm 28))]))))))) ( .seq (.region 0 [oS 29 (.load (some 8) (tm 3)),oN (.store 8 (tm 2) (tm 29))]) ( .ret))))⟩
/-- (*sennet/post.Node).Stock -/
def f60 : IFn := ⟨23,[.cell 2 (some 8)],.seq (.region 1 [oS 2 (.alloc 26 (reps 8 (.int .i64 0)))]) ( .seq (.region 1 [oS 3 (.alloc 26 (reps 8 (.int .i64 0)))]) ( .seq (.seq (.region 0 [oS 6 (.mv (tm 0)),oS 7 (.eqn
 .ptr true (tm 6) (.const (.pointer none)))]) ( .cond (tm 7) ( .seq (.region 0 [oS 8 (.mv (tm 0)),oS 9 (.nilc (tm 8)),oS 10 (.fldA 2 (tm 9)),oS 11 (.load (some 8) (tm 10)),oS 12 (.mv (ci 0))]) (
 .block 0 ( .loop ( .seq (.region 0 [oS 13 (.bin .lss (tm 12) (ci 8))]) ( .seq (.cond (tm 13) ( .skip) ( .exit 0)) ( .seq (.block 1 ( .seq (.region 0 [oS 14 (.mv (tm 12)),oS 15 (.idx 8 none 1 (tm 11)
 (tm 12)),oS 4 (.mv (tm 14)),oS 5 (.mv (tm 15))]) ( .region 0 [oS 16 (.mv (tm 4)),oS 17 (.mv (tm 5)),oS 18 (.ln (tm 17)),oS 19 (.fldA 0 (tm 3)),oS 20 (.idxA (some 8) 1 (tm 19) (tm 16)),oN (.store 1
 (tm 20) (tm 18))]))) ( .region 0 [oS 21 (.bin .add (tm 12) (ci 1)),oS 12 (.mv (tm 21))]))))))) ( .skip))) ( .seq (.region 0 [oS 22 (.load (some 8) (tm 3)),oN (.store 8 (tm 2) (tm 22))]) ( .ret))))⟩
/-- (*sennet/post.Disk).Write -/
def f62 : IFn := ⟨43,[.tmp 6],.seq (.region 0 [oS 6 (.mv (ci 0))]) ( .seq (.seq (.region 0 [oS 9 (.mv (tm 0)),oS 10 (.mv (tm 1)),oS 11 (.call (.func 110) [(tm 9),(tm 10)]),oS 7 (.mv (tm 11))]) ( .seq (.region 0 [oS 12
 (.mv (tm 7)),oS 13 (.bin .neq (tm 12) (ci 0))]) ( .cond (tm 13) ( .seq (.region 0 [oS 14 (.mv (tm 7)),oS 6 (.mv (tm 14))]) ( .ret)) ( .skip)))) ( .seq (.seq (.region 0 [oS 15 (.mv (tm 2)),oS 16 (.ln
 (tm 15)),oS 17 (.bin .gtr (tm 16) (ci 64))]) ( .cond (tm 17) ( .seq (.region 0 [oS 6 (.mv (ci 2))]) ( .ret)) ( .skip))) ( .seq (.seq (.region 0 [oS 18 (.mv (tm 0)),oS 19 (.call (.func 112) [(tm
 18)]),oS 20 (.un .not (tm 19))]) ( .cond (tm 20) ( .seq (.region 0 [oS 6 (.mv (ci 80))]) ( .ret)) ( .skip))) ( .seq (.region 1 [oS 8 (.alloc 153 (reps 64 (.int .u8 0)))]) ( .seq (.region 0 [oS 21
 (.aslc 64 1 (tm 8) none none none),oS 22 (.mv (tm 2)),oS 23 (.cpy 1 (tm 21) (tm 22))]) ( .seq (.draw 0 [⟨0,0,0,oS 24 (.mv (tm 0)),none⟩,⟨1,0,1,oS 25 (.nilc (tm 24)),none⟩,⟨2,0,3,oS 26 (.fldA 1 (tm
 25)),none⟩,⟨3,0,7,oS 27 (.load none (tm 26)),none⟩,⟨4,0,0,oS 28 (.mv (tm 1)),none⟩,⟨5,0,0,oS 29 (.load (some 64) (tm 8)),none⟩,⟨6,0,63,oS 30 (.idxA none 64 (tm 27) (tm 28)),none⟩,⟨7,0,127,oN (.store
 64 (tm 30) (tm 29)),none⟩]) ( .seq (.draw 2 [⟨0,0,0,oS 31 (.mv (tm 0)),none⟩,⟨1,0,0,oS 32 (.mv (tm 0)),none⟩,⟨2,0,2,oS 33 (.nilc (tm 32)),none⟩,⟨3,0,6,oS 34 (.fldA 2 (tm 33)),none⟩,⟨4,0,14,oS 35
 (.load none (tm 34)),none⟩,⟨5,0,0,oS 36 (.mv (tm 1)),none⟩,⟨6,0,0,oS 37 (.load (some 64) (tm 8)),none⟩,⟨7,0,96,oS 38 (.build ([(.int .i64 0)] ++ reps 64 (.int .u8 0)) [(0,1,(tm 36)),(1,64,(tm
 37))]),none⟩,⟨8,0,224,oS 39 (.bslice 155 65 ([(.int .i64 0)] ++ reps 64 (.int .u8 0)) 1 [(0,65,(tm 38))]),none⟩,⟨9,1,510,oS 40 (.app 155 65 72 ([(.int .i64 0)] ++ reps 64 (.int .u8 0)) (tm 35) (tm
 39)),none⟩,⟨10,2,1023,oS 41 (.nilc (tm 31)),none⟩,⟨11,2,2047,oS 42 (.fldA 2 (tm 41)),none⟩,⟨12,2,4095,oN (.store 1 (tm 42) (tm 40)),none⟩]) ( .seq (.region 0 [oS 6 (.mv (ci 0))]) ( .ret)))))))))⟩
/-- sennet/post.Open -/
def f63 : IFn := ⟨52,[.tmp 2,.tmp 3,.tmp 4],.seq (.region 0 [oS 2 (.mv (.const (.pointer none))),oS 3 (.mv (.const (.slice none 0 0))),oS 4 (.mv (ci 0))]) ( .seq (.seq (.region 0 [oS 12 (.mv (tm 0)),oS 13 (.call
 (.func 95) [(tm 12)]),oS 5 (.mv (tm 13))]) ( .seq (.region 0 [oS 14 (.mv (tm 5)),oS 15 (.bin .neq (tm 14) (ci 0))]) ( .cond (tm 15) ( .seq (.region 0 [oS 16 (.mv (tm 5)),oS 2 (.mv (.const (.pointer
 none))),oS 3 (.mv (.const (.slice none 0 0))),oS 4 (.mv (tm 16))]) ( .ret)) ( .skip)))) ( .seq (.region 1 [oS 17 (.mv (tm 0)),oS 18 (.build [(.pointer none),(.int .i64 0),(.int .i64 0)] [(0,1,(tm
 17))]),oS 19 (.box 178 (tm 18)),oS 6 (.mv (tm 19))]) ( .seq (.region 0 [oS 7 (.mv (.const (.slice none 0 0)))]) ( .seq (.block 0 ( .loop ( .block 1 ( .seq (.region 0 [oS 21 (.mv (tm 6)),oS 22 (.mv
 (tm 6)),oS 23 (.nilc (tm 22)),oS 24 (.fldA 1 (tm 23)),oS 25 (.load none (tm 24)),oS 26 (.call (.func 113) [(tm 21),(tm 25)]),oS 20 (.mv (tm 26)),oS 27 (.extr (tm 20) 0),oS 28 (.extr (tm 20) 1),oS 29
 (.extr (tm 20) 2),oS 8 (.mv (tm 27)),oS 9 (.mv (tm 28)),oS 10 (.mv (tm 29))]) ( .seq (.seq (.region 0 [oS 30 (.mv (tm 10)),oS 31 (.un .not (tm 30))]) ( .cond (tm 31) ( .exit 0) ( .skip))) ( .region 2
 [oS 32 (.mv (tm 6)),oS 33 (.mv (tm 7)),oS 34 (.mv (tm 8)),oS 35 (.bslice 9 1 [(.string ⟨#[]⟩)] 1 [(0,1,(tm 34))]),oS 36 (.app 9 1 16 [(.string ⟨#[]⟩)] (tm 33) (tm 35)),oS 37 (.mv (tm 9)),oS 7 (.mv
 (tm 36)),oS 38 (.nilc (tm 32)),oS 39 (.fldA 1 (tm 38)),oN (.store 1 (tm 39) (tm 37))])))))) ( .seq (.region 0 [oS 40 (.mv (tm 6)),oS 41 (.mv (tm 7)),oS 42 (.ln (tm 41)),oS 43 (.nilc (tm 40)),oS 44
 (.fldA 2 (tm 43)),oN (.store 1 (tm 44) (tm 42))]) ( .seq (.seq (.region 0 [oS 45 (.mv (tm 6)),oS 46 (.call (.func 114) [(tm 45)]),oS 11 (.mv (tm 46))]) ( .seq (.region 0 [oS 47 (.mv (tm 11)),oS 48
 (.bin .neq (tm 47) (ci 0))]) ( .cond (tm 48) ( .seq (.region 0 [oS 49 (.mv (tm 11)),oS 2 (.mv (.const (.pointer none))),oS 3 (.mv (.const (.slice none 0 0))),oS 4 (.mv (tm 49))]) ( .ret)) ( .skip))))
 ( .seq (.region 0 [oS 50 (.mv (tm 6)),oS 51 (.mv (tm 7)),oS 2 (.mv (tm 50)),oS 3 (.mv (tm 51)),oS 4 (.mv (ci 0))]) ( .ret))))))))⟩
end Go.Gx.B

/-
  Functions of this seat, as the abstract machine runs them (printed by a program of mine), part 2.
-/
namespace Go.Gx.B
open Go.Gx
/-- (*sennet/post.Disk).Flush -/
def f64 : IFn := ⟨36,[.tmp 2],.seq (.region 0 [oS 2 (.mv (ci 0))]) ( .seq (.seq (.region 0 [oS 6 (.mv (tm 0)),oS 7 (.call (.func 95) [(tm 6)]),oS 3 (.mv (tm 7))]) ( .seq (.region 0 [oS 8 (.mv (tm 3)),oS 9 (.bin .neq
 (tm 8) (ci 0))]) ( .cond (tm 9) ( .seq (.region 0 [oS 10 (.mv (tm 3)),oS 2 (.mv (tm 10))]) ( .ret)) ( .skip)))) ( .seq (.seq (.region 0 [oS 11 (.mv (tm 0)),oS 12 (.call (.func 112) [(tm 11)]),oS 13
 (.un .not (tm 12))]) ( .cond (tm 13) ( .seq (.region 0 [oS 2 (.mv (ci 80))]) ( .ret)) ( .skip))) ( .seq (.seq (.region 0 [oS 14 (.mv (tm 0)),oS 15 (.nilc (tm 14)),oS 16 (.fldA 2 (tm 15)),oS 17 (.load
 none (tm 16)),oS 18 (.ln (tm 17)),oS 19 (.mv (ci 0))]) ( .block 0 ( .loop ( .seq (.region 0 [oS 20 (.bin .lss (tm 19) (tm 18))]) ( .seq (.cond (tm 20) ( .skip) ( .exit 0)) ( .seq (.block 1 ( .seq
 (.region 1 [oS 21 (.idxA none 65 (tm 17) (tm 19)),oS 22 (.load (some 65) (tm 21)),oS 5 (.alloc 155 ([(.int .i64 0)] ++ reps 64 (.int .u8 0))),oN (.store 65 (tm 5) (tm 22))]) ( .draw 0 [⟨0,0,0,oS 23
 (.mv (tm 0)),none⟩,⟨1,0,1,oS 24 (.nilc (tm 23)),none⟩,⟨2,0,3,oS 25 (.fldA 0 (tm 24)),none⟩,⟨3,0,7,oS 26 (.load none (tm 25)),none⟩,⟨4,0,0,oS 27 (.fldA 0 (tm 5)),none⟩,⟨5,0,16,oS 28 (.load none (tm
 27)),none⟩,⟨6,0,0,oS 29 (.fldA 1 (tm 5)),none⟩,⟨7,0,64,oS 30 (.load (some 64) (tm 29)),none⟩,⟨8,0,255,oS 31 (.idxA none 64 (tm 26) (tm 28)),none⟩,⟨9,0,511,oN (.store 64 (tm 31) (tm 30)),none⟩]))) (
 .region 0 [oS 32 (.bin .add (tm 19) (ci 1)),oS 19 (.mv (tm 32))]))))))) ( .seq (.region 0 [oS 33 (.mv (tm 0)),oS 34 (.nilc (tm 33)),oS 35 (.fldA 2 (tm 34)),oN (.store 1 (tm 35) (.const (.slice none 0
 0)))]) ( .seq (.region 0 [oS 2 (.mv (ci 0))]) ( .ret))))))⟩
/-- (*sennet/post.Journal).Sync -/
def f66 : IFn := ⟨10,[.tmp 2],.seq (.region 0 [oS 2 (.mv (ci 0))]) ( .seq (.seq (.region 0 [oS 3 (.mv (tm 0)),oS 4 (.eqn .ptr false (tm 3) (.const (.pointer none)))]) ( .cond (tm 4) ( .seq (.region 0 [oS 2 (.mv (ci
 3))]) ( .ret)) ( .skip))) ( .seq (.region 0 [oS 5 (.mv (tm 0)),oS 6 (.nilc (tm 5)),oS 7 (.fldA 0 (tm 6)),oS 8 (.load none (tm 7)),oS 9 (.call (.func 64) [(tm 8)]),oS 2 (.mv (tm 9))]) ( .ret)))⟩
/-- (*sennet/post.Node).Greet -/
def f68 : IFn := ⟨8,[.tmp 2],.seq (.region 0 [oS 2 (.mv (.const (.string ⟨#[]⟩)))]) ( .seq (.seq (.region 0 [oS 3 (.mv (tm 0)),oS 4 (.eqn .ptr false (tm 3) (.const (.pointer none)))]) ( .cond (tm 4) ( .seq (.region 0
 [oS 2 (.mv (.const (.string ⟨#[]⟩)))]) ( .ret)) ( .skip))) ( .seq (.region 0 [oS 5 (.mv (tm 0)),oS 6 (.call (.func 60) [(tm 5)]),oS 7 (.call (.func 83) [(tm 6)]),oS 2 (.mv (tm 7))]) ( .ret)))⟩
/-- (*sennet/post.Node).replay -/
def f74 : IFn := ⟨94,[.tmp 4],.seq (.region 0 [oS 4 (.mv (.const (.bool false)))]) ( .seq (.region 0 [oS 13 (.mv (tm 1)),oS 14 (.call (.func 123) [(tm 13),(.const (.string ⟨#[10]⟩))]),oS 12 (.mv (tm 14)),oS 15 (.extr
 (tm 12) 0),oS 16 (.extr (tm 12) 1),oS 17 (.extr (tm 12) 2),oS 5 (.mv (tm 15)),oS 6 (.mv (tm 16)),oS 7 (.mv (tm 17))]) ( .seq (.region 0 [oS 19 (.mv (tm 6)),oS 20 (.call (.func 124) [(tm 19)]),oS 18
 (.mv (tm 20)),oS 21 (.extr (tm 18) 0),oS 22 (.extr (tm 18) 1),oS 8 (.mv (tm 21)),oS 9 (.mv (tm 22))]) ( .seq (.seq (.region 0 [oS 23 (.mv (tm 9)),oS 24 (.un .not (tm 23)),oS 25 (.mv (tm 24)),oG 26
 (.mv (tm 5)) 25 false,oG 27 (.mv (tm 0)) 25 false,oG 28 (.nilc (tm 27)) 25 false,oG 29 (.fldA 1 (tm 28)) 25 false,oG 30 (.load none (tm 29)) 25 false,oG 31 (.call (.func 125) [(tm 30)]) 25 false,oG
 32 (.bin .neq (tm 26) (tm 31)) 25 false,oS 33 (.pick (tm 25) (.const (.bool true)) (tm 32))]) ( .cond (tm 33) ( .seq (.region 0 [oS 4 (.mv (.const (.bool false)))]) ( .ret)) ( .skip))) ( .seq (.seq
 (.region 0 [oS 34 (.mv (tm 8)),oS 35 (.ln (tm 34)),oS 36 (.mv (ci 0))]) ( .block 0 ( .loop ( .seq (.region 0 [oS 37 (.bin .lss (tm 36) (tm 35))]) ( .seq (.cond (tm 37) ( .skip) ( .exit 0)) ( .seq
 (.block 1 ( .seq (.region 1 [oS 38 (.idxA none 4 (tm 34) (tm 36)),oS 39 (.load (some 4) (tm 38)),oS 11 (.alloc 104 [(.int .i64 0),(.int .i64 0),(.int .i64 0),(.string ⟨#[]⟩)]),oN (.store 4 (tm 11)
 (tm 39))]) ( .seq (.seq (.draw 0 [⟨0,0,0,oS 40 (.load (some 4) (tm 11)),none⟩,⟨1,0,1,oS 41 (.call (.func 101) [(tm 40)]),none⟩,⟨2,0,3,oS 42 (.un .not (tm 41)),none⟩,⟨3,0,7,oS 43 (.mv (tm
 42)),none⟩,⟨4,0,15,oG 44 (.fldA 1 (tm 11)) 43 false,none⟩,⟨5,0,31,oG 45 (.load none (tm 44)) 43 false,none⟩,⟨6,0,15,oG 46 (.mv (tm 0)) 43 false,none⟩,⟨7,0,15,oG 47 (.fldA 0 (tm 11)) 43
 false,none⟩,⟨8,0,143,oG 48 (.load none (tm 47)) 43 false,none⟩,⟨9,0,79,oG 49 (.nilc (tm 46)) 43 false,none⟩,⟨10,0,591,oG 50 (.fldA 2 (tm 49)) 43 false,none⟩,⟨11,0,1999,oG 51 (.idxA (some 8) 1 (tm 50)
 (tm 48)) 43 false,none⟩,⟨12,0,4047,oG 52 (.load none (tm 51)) 43 false,none⟩,⟨13,0,8143,oG 53 (.ln (tm 52)) 43 false,none⟩,⟨14,0,16335,oG 54 (.bin .add (tm 53) (ci 1)) 43 false,none⟩,⟨15,0,32767,oG
 55 (.bin .neq (tm 45) (tm 54)) 43 false,none⟩,⟨16,0,65535,oS 56 (.pick (tm 43) (.const (.bool true)) (tm 55)),none⟩,⟨17,0,131071,oS 57 (.mv (tm 56)),none⟩,⟨18,0,262143,oG 58 (.mv (tm 0)) 57
 false,none⟩,⟨19,0,262143,oG 59 (.fldA 0 (tm 11)) 57 false,none⟩,⟨20,0,786431,oG 60 (.load none (tm 59)) 57 false,none⟩,⟨21,0,524287,oG 61 (.nilc (tm 58)) 57 false,none⟩,⟨22,0,2621439,oG 62 (.fldA 2
 (tm 61)) 57 false,none⟩,⟨23,0,8388607,oG 63 (.idxA (some 8) 1 (tm 62) (tm 60)) 57 false,none⟩,⟨24,0,16777215,oG 64 (.load none (tm 63)) 57 false,none⟩,⟨25,0,33554431,oG 65 (.ln (tm 64)) 57
 false,none⟩,⟨26,0,67108863,oG 66 (.bin .gtr (tm 65) (ci 0)) 57 false,none⟩,⟨27,0,134217727,oG 67 (.mv (tm 66)) 57 false,none⟩,⟨28,0,268435455,oG 68 (.fldA 2 (tm 11)) 67 true,none⟩,⟨29,0,536870911,oG
 69 (.load none (tm 68)) 67 true,none⟩,⟨30,0,268435455,oG 70 (.mv (tm 0)) 67 true,none⟩,⟨31,0,268435455,oG 71 (.fldA 0 (tm 11)) 67 true,none⟩,⟨32,0,2415919103,oG 72 (.load none (tm 71)) 67
 true,none⟩,⟨33,0,7784628223,oG 73 (.call (.func 75) [(tm 70),(tm 72)]) 67 true,none⟩,⟨34,0,17179869183,oG 74 (.bin .lss (tm 69) (tm 73)) 67 true,none⟩,⟨35,0,34359738367,oG 75 (.pick (tm 67) (tm 74)
 (.const (.bool false))) 57 false,none⟩,⟨36,0,68719476735,oS 76 (.pick (tm 57) (.const (.bool true)) (tm 75)),none⟩]) ( .cond (tm 76) ( .seq (.region 0 [oS 4 (.mv (.const (.bool false)))]) ( .ret)) (
 .skip))) ( .draw 2 [⟨0,0,0,oS 77 (.mv (tm 0)),none⟩,⟨1,0,0,oS 78 (.fldA 0 (tm 11)),none⟩,⟨2,0,2,oS 79 (.load none (tm 78)),none⟩,⟨3,0,0,oS 80 (.mv (tm 0)),none⟩,⟨4,0,0,oS 81 (.fldA 0 (tm
 11)),none⟩,⟨5,0,16,oS 82 (.load none (tm 81)),none⟩,⟨6,0,8,oS 83 (.nilc (tm 80)),none⟩,⟨7,0,72,oS 84 (.fldA 2 (tm 83)),none⟩,⟨8,0,248,oS 85 (.idxA (some 8) 1 (tm 84) (tm 82)),none⟩,⟨9,0,504,oS 86
 (.load none (tm 85)),none⟩,⟨10,0,0,oS 87 (.load (some 4) (tm 11)),none⟩,⟨11,0,1024,oS 88 (.bslice 104 4 [(.int .i64 0),(.int .i64 0),(.int .i64 0),(.string ⟨#[]⟩)] 1 [(0,4,(tm 87))]),none⟩,⟨13,2,1,oS
 90 (.nilc (tm 77)),none⟩,⟨14,2,8193,oS 91 (.fldA 2 (tm 90)),none⟩,⟨12,1,4088,oS 89 (.app 104 4 40 [(.int .i64 0),(.int .i64 0),(.int .i64 0),(.string ⟨#[]⟩)] (tm 86) (tm 88)),none⟩,⟨15,2,32767,oS 92
 (.idxA (some 8) 1 (tm 91) (tm 79)),none⟩,⟨16,2,65535,oN (.store 1 (tm 92) (tm 89)),none⟩])))) ( .region 0 [oS 93 (.bin .add (tm 36) (ci 1)),oS 36 (.mv (tm 93))]))))))) ( .seq (.region 0 [oS 4 (.mv
 (.const (.bool true)))]) ( .ret))))))⟩
/-- (*sennet/post.Node).last -/
def f75 : IFn := ⟨22,[.tmp 4],.seq (.region 0 [oS 4 (.mv (ci 0))]) ( .seq (.draw 0 [⟨0,0,0,oS 5 (.mv (tm 0)),none⟩,⟨1,0,0,oS 6 (.mv (tm 1)),none⟩,⟨2,0,1,oS 7 (.nilc (tm 5)),none⟩,⟨3,0,5,oS 8 (.fldA 2 (tm
 7)),none⟩,⟨4,0,15,oS 9 (.idxA (some 8) 1 (tm 8) (tm 6)),none⟩,⟨5,0,31,oS 10 (.load none (tm 9)),none⟩,⟨6,0,0,oS 11 (.mv (tm 0)),none⟩,⟨7,0,0,oS 12 (.mv (tm 1)),none⟩,⟨8,0,64,oS 13 (.nilc (tm
 11)),none⟩,⟨9,0,320,oS 14 (.fldA 2 (tm 13)),none⟩,⟨10,0,960,oS 15 (.idxA (some 8) 1 (tm 14) (tm 12)),none⟩,⟨11,0,1984,oS 16 (.load none (tm 15)),none⟩,⟨12,0,4032,oS 17 (.ln (tm
 16)),none⟩,⟨13,0,8128,oS 18 (.bin .sub (tm 17) (ci 1)),none⟩,⟨14,0,16383,oS 19 (.idxA none 4 (tm 10) (tm 18)),none⟩,⟨15,0,32767,oS 20 (.fldA 2 (tm 19)),none⟩,⟨16,0,65535,oS 21 (.load none (tm
 20)),none⟩,⟨17,0,131071,oS 4 (.mv (tm 21)),none⟩]) ( .ret))⟩
/-- (*sennet/post.Node).add -/
def f76 : IFn := ⟨51,[.tmp 4],.seq (.region 0 [oS 4 (.mv (ci 0))]) ( .seq (.seq (.draw 0 [⟨0,0,0,oS 9 (.mv (tm 0)),none⟩,⟨1,0,1,oS 10 (.nilc (tm 9)),none⟩,⟨2,0,3,oS 11 (.fldA 0 (tm 10)),none⟩,⟨3,0,7,oS 12 (.load none
 (tm 11)),none⟩,⟨4,0,0,oS 13 (.mv (tm 0)),none⟩,⟨5,0,0,oS 14 (.mv (tm 1)),none⟩,⟨6,0,48,oS 15 (.call (.func 126) [(tm 13),(tm 14)]),none⟩,⟨7,0,127,oS 16 (.call (.func 115) [(tm 12),(tm
 15)]),none⟩,⟨8,0,255,oS 5 (.mv (tm 16)),none⟩]) ( .seq (.region 0 [oS 17 (.mv (tm 5)),oS 18 (.bin .neq (tm 17) (ci 0))]) ( .cond (tm 18) ( .seq (.region 0 [oS 19 (.mv (tm 5)),oS 4 (.mv (tm 19))]) (
 .ret)) ( .skip)))) ( .seq (.seq (.region 0 [oS 20 (.mv (tm 0)),oS 21 (.nilc (tm 20)),oS 22 (.fldA 0 (tm 21)),oS 23 (.load none (tm 22)),oS 24 (.call (.func 66) [(tm 23)]),oS 6 (.mv (tm 24))]) ( .seq
 (.region 0 [oS 25 (.mv (tm 6)),oS 26 (.bin .neq (tm 25) (ci 0))]) ( .cond (tm 26) ( .seq (.region 0 [oS 27 (.mv (tm 6)),oS 4 (.mv (tm 27))]) ( .ret)) ( .skip)))) ( .seq (.seq (.region 0 [oS 28 (.mv
 (tm 1)),oS 29 (.ln (tm 28)),oS 30 (.mv (ci 0))]) ( .block 0 ( .loop ( .seq (.region 0 [oS 31 (.bin .lss (tm 30) (tm 29))]) ( .seq (.cond (tm 31) ( .skip) ( .exit 0)) ( .seq (.block 1 ( .seq (.region
 1 [oS 32 (.idxA none 4 (tm 28) (tm 30)),oS 33 (.load (some 4) (tm 32)),oS 8 (.alloc 104 [(.int .i64 0),(.int .i64 0),(.int .i64 0),(.string ⟨#[]⟩)]),oN (.store 4 (tm 8) (tm 33))]) ( .draw 2
 [⟨0,0,0,oS 34 (.mv (tm 0)),none⟩,⟨1,0,0,oS 35 (.fldA 0 (tm 8)),none⟩,⟨2,0,2,oS 36 (.load none (tm 35)),none⟩,⟨3,0,0,oS 37 (.mv (tm 0)),none⟩,⟨4,0,0,oS 38 (.fldA 0 (tm 8)),none⟩,⟨5,0,16,oS 39 (.load
 none (tm 38)),none⟩,⟨6,0,8,oS 40 (.nilc (tm 37)),none⟩,⟨7,0,72,oS 41 (.fldA 2 (tm 40)),none⟩,⟨8,0,248,oS 42 (.idxA (some 8) 1 (tm 41) (tm 39)),none⟩,⟨9,0,504,oS 43 (.load none (tm
 42)),none⟩,⟨10,0,0,oS 44 (.load (some 4) (tm 8)),none⟩,⟨11,0,1024,oS 45 (.bslice 104 4 [(.int .i64 0),(.int .i64 0),(.int .i64 0),(.string ⟨#[]⟩)] 1 [(0,4,(tm 44))]),none⟩,⟨13,2,1,oS 47 (.nilc (tm
 34)),none⟩,⟨14,2,8193,oS 48 (.fldA 2 (tm 47)),none⟩,⟨12,1,4088,oS 46 (.app 104 4 40 [(.int .i64 0),(.int .i64 0),(.int .i64 0),(.string ⟨#[]⟩)] (tm 43) (tm 45)),none⟩,⟨15,2,32767,oS 49 (.idxA (some
 8) 1 (tm 48) (tm 36)),none⟩,⟨16,2,65535,oN (.store 1 (tm 49) (tm 46)),none⟩]))) ( .region 0 [oS 50 (.bin .add (tm 30) (ci 1)),oS 30 (.mv (tm 50))]))))))) ( .seq (.region 0 [oS 4 (.mv (ci 0))]) (
 .ret)))))⟩
/-- sennet/post.parse -/
def f77 : IFn := ⟨104,[.cell 2 none],.seq (.region 1 [oS 2 (.alloc 131 [.nilIface])]) ( .seq (.region 0 [oS 18 (.mkfn (.func 127) [] [(tm 2)]),oN (.defer (tm 18) [])]) ( .seq (.seq (.region 0 [oS 20 (.mv (tm 0)),oS 21
 (.call (.func 128) [(tm 20),(.const (.string ⟨#[104,97,118,101,32]⟩))]),oS 19 (.mv (tm 21)),oS 22 (.extr (tm 19) 0),oS 23 (.extr (tm 19) 1),oS 3 (.mv (tm 22)),oS 4 (.mv (tm 23))]) ( .seq (.region 0
 [oS 24 (.mv (tm 4))]) ( .cond (tm 24) ( .seq (.region 0 [oS 26 (.mv (tm 3)),oS 27 (.call (.func 129) [(tm 26)]),oS 25 (.mv (tm 27)),oS 28 (.extr (tm 25) 0),oS 29 (.extr (tm 25) 1),oS 30 (.extr (tm
 25) 2),oS 5 (.mv (tm 28)),oS 6 (.mv (tm 29)),oS 7 (.mv (tm 30))]) ( .seq (.region 1 [oS 8 (.alloc 133 (reps 8 (.int .i64 0)))]) ( .seq (.seq (.region 0 [oS 31 (.mv (ci 0))]) ( .block 0 ( .loop ( .seq
 (.region 0 [oS 32 (.bin .lss (tm 31) (ci 8))]) ( .seq (.cond (tm 32) ( .skip) ( .exit 0)) ( .seq (.block 1 ( .seq (.region 0 [oS 33 (.mv (tm 31)),oS 9 (.mv (tm 33))]) ( .seq (.region 0 [oS 10 (.mv
 (.const (.int .u8 32)))]) ( .seq (.seq (.region 0 [oS 34 (.mv (tm 9)),oS 35 (.bin .eql (tm 34) (ci 7))]) ( .cond (tm 35) ( .region 0 [oS 10 (.mv (.const (.int .u8 10)))]) ( .skip))) ( .region 0 [oS
 36 (.mv (tm 9)),oS 37 (.mv (tm 5)),oS 38 (.mv (tm 10)),oS 39 (.call (tm 37) [(tm 38)]),oS 40 (.fldA 0 (tm 8)),oS 41 (.idxA (some 8) 1 (tm 40) (tm 36)),oN (.store 1 (tm 41) (tm 39))]))))) ( .region 0
 [oS 42 (.bin .add (tm 31) (ci 1)),oS 31 (.mv (tm 42))]))))))) ( .seq (.seq (.region 0 [oS 43 (.mv (tm 7)),oS 44 (.call (tm 43) []),oS 45 (.bin .neq (tm 44) (.const (.string ⟨#[]⟩))),oS 46 (.mv (tm
 45)),oG 47 (.load (some 8) (tm 8)) 46 false,oG 48 (.call (.func 82) [(tm 47)]) 46 false,oG 49 (.un .not (tm 48)) 46 false,oS 50 (.pick (tm 46) (.const (.bool true)) (tm 49))]) ( .cond (tm 50) ( .seq
 (.region 0 [oN (.store 1 (tm 2) (.const .nilIface))]) ( .ret)) ( .skip))) ( .seq (.region 0 [oS 51 (.load (some 8) (tm 8)),oS 52 (.mkif 133 (tm 51)),oN (.store 1 (tm 2) (tm 52))]) ( .ret)))))) (
 .skip)))) ( .seq (.region 0 [oS 54 (.mv (tm 0)),oS 55 (.call (.func 128) [(tm 54),(.const (.string ⟨#[110,111,116,101,115,32]⟩))]),oS 53 (.mv (tm 55)),oS 56 (.extr (tm 53) 0),oS 57 (.extr (tm 53)
 1),oS 11 (.mv (tm 56)),oS 12 (.mv (tm 57))]) ( .seq (.seq (.region 0 [oS 58 (.mv (tm 12)),oS 59 (.un .not (tm 58)),oS 60 (.mv (tm 59)),oG 61 (.mv (tm 0)) 60 false,oG 62 (.sln (tm 61)) 60 false,oG 63
 (.bin .gtr (tm 62) (ci 60000)) 60 false,oS 64 (.pick (tm 60) (.const (.bool true)) (tm 63))]) ( .cond (tm 64) ( .seq (.region 0 [oN (.store 1 (tm 2) (.const .nilIface))]) ( .ret)) ( .skip))) ( .seq
 (.region 0 [oS 66 (.mv (tm 11)),oS 67 (.call (.func 129) [(tm 66)]),oS 65 (.mv (tm 67)),oS 68 (.extr (tm 65) 0),oS 69 (.extr (tm 65) 1),oS 70 (.extr (tm 65) 2),oS 13 (.mv (tm 68)),oS 14 (.mv (tm
 69)),oS 15 (.mv (tm 70))]) ( .seq (.region 0 [oS 16 (.mv (.const (.slice none 0 0)))]) ( .seq (.seq (.region 0 [oS 71 (.mv (tm 13)),oS 72 (.call (tm 71) [(.const (.int .u8 10))]),oS 73 (.minb [(tm
 72),(ci 65)]),oS 74 (.mv (ci 0))]) ( .block 2 ( .loop ( .seq (.region 0 [oS 75 (.bin .lss (tm 74) (tm 73))]) ( .seq (.cond (tm 75) ( .skip) ( .exit 2)) ( .seq (.block 3 ( .seq (.region 1 [oS 76 (.mv
 (tm 13)),oS 77 (.call (tm 76) [(.const (.int .u8 32))]),oS 78 (.mv (tm 13)),oS 79 (.call (tm 78) [(.const (.int .u8 32))]),oS 80 (.build [(.int .i64 0),(.int .i64 0),(.int .i64 0),(.string ⟨#[]⟩)]
 [(0,1,(tm 77)),(1,1,(tm 79))]),oS 17 (.alloc 104 [(.int .i64 0),(.int .i64 0),(.int .i64 0),(.string ⟨#[]⟩)]),oN (.store 4 (tm 17) (tm 80))]) ( .seq (.region 0 [oS 81 (.mv (tm 13)),oS 82 (.call (tm
 81) [(.const (.int .u8 32))]),oS 83 (.fldA 2 (tm 17)),oN (.store 1 (tm 83) (tm 82))]) ( .seq (.region 0 [oS 84 (.mv (tm 14)),oS 85 (.mv (tm 13)),oS 86 (.call (tm 85) [(.const (.int .u8 10))]),oS 87
 (.call (tm 84) [(tm 86)]),oS 88 (.fldA 3 (tm 17)),oN (.store 1 (tm 88) (tm 87))]) ( .region 2 [oS 89 (.mv (tm 16)),oS 90 (.load (some 4) (tm 17)),oS 91 (.bslice 104 4 [(.int .i64 0),(.int .i64
 0),(.int .i64 0),(.string ⟨#[]⟩)] 1 [(0,4,(tm 90))]),oS 92 (.app 104 4 40 [(.int .i64 0),(.int .i64 0),(.int .i64 0),(.string ⟨#[]⟩)] (tm 89) (tm 91)),oS 16 (.mv (tm 92))]))))) ( .region 0 [oS 93
 (.bin .add (tm 74) (ci 1)),oS 74 (.mv (tm 93))]))))))) ( .seq (.seq (.region 0 [oS 94 (.mv (tm 15)),oS 95 (.call (tm 94) []),oS 96 (.bin .neq (tm 95) (.const (.string ⟨#[]⟩))),oS 97 (.mv (tm 96)),oG
 98 (.mv (tm 16)) 97 false,oG 99 (.call (.func 88) [(tm 98)]) 97 false,oG 100 (.bin .neq (tm 99) (ci 0)) 97 false,oS 101 (.pick (tm 97) (.const (.bool true)) (tm 100))]) ( .cond (tm 101) ( .seq
 (.region 0 [oN (.store 1 (tm 2) (.const .nilIface))]) ( .ret)) ( .skip))) ( .seq (.region 0 [oS 102 (.mv (tm 16)),oS 103 (.mkif 135 (tm 102)),oN (.store 1 (tm 2) (tm 103))]) ( .ret))))))))))⟩
/-- (*sennet/post.Node).greeted -/
def f78 : IFn := ⟨40,[.tmp 4],.seq (.region 1 [oS 3 (.box 133 (tm 1)),oS 4 (.mv (.const (.string ⟨#[]⟩)))]) ( .seq (.region 0 [oS 5 (.mv (.const (.slice none 0 0)))]) ( .seq (.seq (.region 0 [oS 8 (.mv (tm 0)),oS 9
 (.nilc (tm 8)),oS 10 (.fldA 2 (tm 9)),oS 11 (.load (some 8) (tm 10)),oS 12 (.mv (ci 0))]) ( .block 0 ( .loop ( .seq (.region 0 [oS 13 (.bin .lss (tm 12) (ci 8))]) ( .seq (.cond (tm 13) ( .skip) (
 .exit 0)) ( .seq (.block 1 ( .seq (.region 0 [oS 14 (.mv (tm 12)),oS 15 (.idx 8 none 1 (tm 11) (tm 12)),oS 6 (.mv (tm 14)),oS 7 (.mv (tm 15))]) ( .region 1 [oS 16 (.mv (tm 5)),oS 17 (.mv (tm 7)),oS
 18 (.mv (tm 7)),oS 19 (.ln (tm 18)),oS 20 (.mv (tm 6)),oS 21 (.fldA 0 (tm 3)),oS 22 (.idxA (some 8) 1 (tm 21) (tm 20)),oS 23 (.load none (tm 22)),oS 24 (.minb [(tm 19),(tm 23)]),oS 25 (.slc 104 4 (tm
 17) (some (tm 24)) none none),oS 26 (.app 104 4 40 [(.int .i64 0),(.int .i64 0),(.int .i64 0),(.string ⟨#[]⟩)] (tm 16) (tm 25)),oS 5 (.mv (tm 26))]))) ( .region 0 [oS 27 (.bin .add (tm 12) (ci 1)),oS
 12 (.mv (tm 27))]))))))) ( .seq (.seq (.region 0 [oS 28 (.mv (tm 5)),oS 29 (.ln (tm 28)),oS 30 (.bin .gtr (tm 29) (ci 0))]) ( .cond (tm 30) ( .seq (.region 0 [oS 31 (.mv (tm 5)),oS 32 (.call (.func
 121) [(tm 31)]),oS 33 (.call (.func 89) [(tm 32)]),oS 4 (.mv (tm 33))]) ( .ret)) ( .skip))) ( .seq (.seq (.draw 0 [⟨0,0,0,oS 34 (.mv (tm 0)),none⟩,⟨2,0,0,oS 36 (.load (some 8) (tm 3)),none⟩,⟨1,0,1,oS
 35 (.call (.func 60) [(tm 34)]),none⟩,⟨3,0,7,oS 37 (.eqc true (reps 8 (.int .i64)) true (tm 35) (tm 36)),none⟩]) ( .cond (tm 37) ( .seq (.region 0 [oS 38 (.mv (tm 0)),oS 39 (.call (.func 68) [(tm
 38)]),oS 4 (.mv (tm 39))]) ( .ret)) ( .skip))) ( .seq (.region 0 [oS 4 (.mv (.const (.string ⟨#[]⟩)))]) ( .ret))))))⟩
/-- (*sennet/post.Node).received -/
def f79 : IFn := ⟨31,[.tmp 4,.tmp 5],.seq (.region 0 [oS 4 (.mv (.const (.string ⟨#[]⟩))),oS 5 (.mv (ci 0))]) ( .seq (.region 0 [oS 10 (.mv (tm 0)),oS 11 (.mv (tm 1)),oS 12 (.call (.func 130) [(tm 10),(tm 11)]),oS 9
 (.mv (tm 12)),oS 13 (.extr (tm 9) 0),oS 14 (.extr (tm 9) 1),oS 6 (.mv (tm 13)),oS 7 (.mv (tm 14))]) ( .seq (.seq (.region 0 [oS 15 (.mv (tm 7)),oS 16 (.bin .neq (tm 15) (ci 0)),oS 17 (.mv (tm 16)),oG
 18 (.mv (tm 6)) 17 false,oG 19 (.ln (tm 18)) 17 false,oG 20 (.bin .eql (tm 19) (ci 0)) 17 false,oS 21 (.pick (tm 17) (.const (.bool true)) (tm 20))]) ( .cond (tm 21) ( .seq (.region 0 [oS 22 (.mv (tm
 7)),oS 4 (.mv (.const (.string ⟨#[]⟩))),oS 5 (.mv (tm 22))]) ( .ret)) ( .skip))) ( .seq (.seq (.region 0 [oS 23 (.mv (tm 0)),oS 24 (.mv (tm 6)),oS 25 (.call (.func 76) [(tm 23),(tm 24)]),oS 8 (.mv
 (tm 25))]) ( .seq (.region 0 [oS 26 (.mv (tm 8)),oS 27 (.bin .neq (tm 26) (ci 0))]) ( .cond (tm 27) ( .seq (.region 0 [oS 28 (.mv (tm 8)),oS 4 (.mv (.const (.string ⟨#[]⟩))),oS 5 (.mv (tm 28))]) (
 .ret)) ( .skip)))) ( .seq (.region 0 [oS 29 (.mv (tm 0)),oS 30 (.call (.func 68) [(tm 29)]),oS 4 (.mv (tm 30)),oS 5 (.mv (ci 0))]) ( .ret)))))⟩
/-- sennet/post.merged[sennet/api.Note] -/
def f80 : IFn := ⟨78,[.tmp 6],.seq (.region 0 [oS 6 (.mv (.const (.slice none 0 0)))]) ( .seq (.region 0 [oS 7 (.mv (.const (.slice none 0 0)))]) ( .seq (.block 0 ( .loop ( .seq (.seq (.region 0 [oS 8 (.mv (tm 0)),oS
 9 (.ln (tm 8)),oS 10 (.bin .gtr (tm 9) (ci 0)),oS 11 (.mv (tm 10)),oG 12 (.mv (tm 1)) 11 false,oG 13 (.ln (tm 12)) 11 false,oG 14 (.bin .gtr (tm 13) (ci 0)) 11 false,oS 15 (.pick (tm 11) (.const
 (.bool true)) (tm 14))]) ( .cond (tm 15) ( .skip) ( .exit 0))) ( .block 1 ( .block 2 ( .seq (.draw 0 [⟨0,0,0,oS 27 (.mv (tm 1)),none⟩,⟨1,0,1,oS 28 (.ln (tm 27)),none⟩,⟨2,0,3,oS 29 (.bin .eql (tm 28)
 (ci 0)),none⟩,⟨3,0,7,oS 30 (.mv (tm 29)),none⟩,⟨4,0,15,oG 31 (.mv (tm 0)) 30 false,none⟩,⟨5,0,31,oG 32 (.ln (tm 31)) 30 false,none⟩,⟨6,0,63,oG 33 (.bin .gtr (tm 32) (ci 0)) 30 false,none⟩,⟨7,0,127,oG
 34 (.mv (tm 33)) 30 false,none⟩,⟨8,0,255,oG 35 (.mv (tm 2)) 34 true,none⟩,⟨9,0,255,oG 36 (.mv (tm 0)) 34 true,none⟩,⟨10,0,767,oG 37 (.idxA none 4 (tm 36) (ci 0)) 34 true,none⟩,⟨11,0,1791,oG 38 (.load
 (some 4) (tm 37)) 34 true,none⟩,⟨12,0,255,oG 39 (.mv (tm 1)) 34 true,none⟩,⟨13,0,4351,oG 40 (.idxA none 4 (tm 39) (ci 0)) 34 true,none⟩,⟨14,0,12543,oG 41 (.load (some 4) (tm 40)) 34
 true,none⟩,⟨15,0,32767,oG 42 (.call (tm 35) [(tm 38),(tm 41)]) 34 true,none⟩,⟨16,0,65535,oG 43 (.bin .lss (tm 42) (ci 0)) 34 true,none⟩,⟨17,0,131071,oG 44 (.pick (tm 34) (tm 43) (.const (.bool
 false))) 30 false,none⟩,⟨18,0,262143,oS 45 (.pick (tm 30) (.const (.bool true)) (tm 44)),none⟩,⟨19,0,524287,oS 26 (.mv (tm 45)),none⟩]) ( .cond (tm 26) ( .draw 2 [⟨0,0,0,oS 46 (.mv (tm
 7)),none⟩,⟨1,0,0,oS 47 (.mv (tm 0)),none⟩,⟨2,0,2,oS 48 (.idxA none 4 (tm 47) (ci 0)),none⟩,⟨3,0,6,oS 49 (.load (some 4) (tm 48)),none⟩,⟨4,0,14,oS 50 (.bslice 104 4 [(.int .i64 0),(.int .i64 0),(.int
 .i64 0),(.string ⟨#[]⟩)] 1 [(0,4,(tm 49))]),none⟩,⟨6,2,0,oS 52 (.mv (tm 0)),none⟩,⟨7,2,64,oS 53 (.slc 104 4 (tm 52) (some (ci 1)) none none),none⟩,⟨5,1,31,oS 51 (.app 104 4 40 [(.int .i64 0),(.int
 .i64 0),(.int .i64 0),(.string ⟨#[]⟩)] (tm 46) (tm 50)),none⟩,⟨8,2,63,oS 7 (.mv (tm 51)),none⟩,⟨9,2,511,oS 0 (.mv (tm 53)),none⟩]) ( .seq (.draw 0 [⟨0,0,0,oS 55 (.mv (tm 0)),none⟩,⟨1,0,1,oS 56 (.ln
 (tm 55)),none⟩,⟨2,0,3,oS 57 (.bin .eql (tm 56) (ci 0)),none⟩,⟨3,0,7,oS 58 (.mv (tm 57)),none⟩,⟨4,0,15,oG 59 (.mv (tm 2)) 58 false,none⟩,⟨5,0,15,oG 60 (.mv (tm 0)) 58 false,none⟩,⟨6,0,47,oG 61 (.idxA
 none 4 (tm 60) (ci 0)) 58 false,none⟩,⟨7,0,111,oG 62 (.load (some 4) (tm 61)) 58 false,none⟩,⟨8,0,15,oG 63 (.mv (tm 1)) 58 false,none⟩,⟨9,0,271,oG 64 (.idxA none 4 (tm 63) (ci 0)) 58
 false,none⟩,⟨10,0,783,oG 65 (.load (some 4) (tm 64)) 58 false,none⟩,⟨11,0,2047,oG 66 (.call (tm 59) [(tm 62),(tm 65)]) 58 false,none⟩,⟨12,0,4095,oG 67 (.bin .gtr (tm 66) (ci 0)) 58
 false,none⟩,⟨13,0,8191,oS 68 (.pick (tm 58) (.const (.bool true)) (tm 67)),none⟩,⟨14,0,16383,oS 54 (.mv (tm 68)),none⟩]) ( .cond (tm 54) ( .draw 2 [⟨0,0,0,oS 69 (.mv (tm 7)),none⟩,⟨1,0,0,oS 70 (.mv
 (tm 1)),none⟩,⟨2,0,2,oS 71 (.idxA none 4 (tm 70) (ci 0)),none⟩,⟨3,0,6,oS 72 (.load (some 4) (tm 71)),none⟩,⟨4,0,14,oS 73 (.bslice 104 4 [(.int .i64 0),(.int .i64 0),(.int .i64 0),(.string ⟨#[]⟩)] 1
 [(0,4,(tm 72))]),none⟩,⟨6,2,0,oS 75 (.mv (tm 1)),none⟩,⟨7,2,64,oS 76 (.slc 104 4 (tm 75) (some (ci 1)) none none),none⟩,⟨5,1,31,oS 74 (.app 104 4 40 [(.int .i64 0),(.int .i64 0),(.int .i64
 0),(.string ⟨#[]⟩)] (tm 69) (tm 73)),none⟩,⟨8,2,63,oS 7 (.mv (tm 74)),none⟩,⟨9,2,511,oS 1 (.mv (tm 76)),none⟩]) ( .draw 2 [⟨0,0,0,oS 16 (.mv (tm 7)),none⟩,⟨1,0,0,oS 17 (.mv (tm 0)),none⟩,⟨2,0,2,oS 18
 (.idxA none 4 (tm 17) (ci 0)),none⟩,⟨3,0,6,oS 19 (.load (some 4) (tm 18)),none⟩,⟨4,0,14,oS 20 (.bslice 104 4 [(.int .i64 0),(.int .i64 0),(.int .i64 0),(.string ⟨#[]⟩)] 1 [(0,4,(tm
 19))]),none⟩,⟨6,2,0,oS 22 (.mv (tm 0)),none⟩,⟨7,2,64,oS 23 (.slc 104 4 (tm 22) (some (ci 1)) none none),none⟩,⟨8,2,0,oS 24 (.mv (tm 1)),none⟩,⟨9,2,256,oS 25 (.slc 104 4 (tm 24) (some (ci 1)) none
 none),none⟩,⟨5,1,31,oS 21 (.app 104 4 40 [(.int .i64 0),(.int .i64 0),(.int .i64 0),(.string ⟨#[]⟩)] (tm 16) (tm 20)),none⟩,⟨10,2,63,oS 7 (.mv (tm 21)),none⟩,⟨11,2,1279,oS 0 (.mv (tm
 23)),none⟩,⟨12,2,4095,oS 1 (.mv (tm 25)),none⟩])))))))))) ( .seq (.region 0 [oS 77 (.mv (tm 7)),oS 6 (.mv (tm 77))]) ( .ret))))⟩
/-- sennet/post.byDay -/
def f81 : IFn := ⟨15,[.tmp 4],.seq (.region 2 [oS 2 (.box 104 (tm 0)),oS 3 (.box 104 (tm 1)),oS 4 (.mv (ci 0))]) ( .seq (.draw 1 [⟨0,0,0,oS 5 (.fldA 2 (tm 2)),none⟩,⟨1,0,1,oS 6 (.load none (tm 5)),none⟩,⟨2,0,0,oS 7
 (.fldA 2 (tm 3)),none⟩,⟨3,0,4,oS 8 (.load none (tm 7)),none⟩,⟨5,0,0,oS 10 (.load (some 4) (tm 2)),none⟩,⟨6,0,0,oS 11 (.load (some 4) (tm 3)),none⟩,⟨4,0,15,oS 9 (.call (.func 132) [(tm 6),(tm
 8)]),none⟩,⟨7,0,127,oS 12 (.call (.func 119) [(tm 10),(tm 11)]),none⟩,⟨8,0,255,oS 13 (.bslice 3 1 [(.int .i64 0),(.int .i64 0)] 2 [(0,1,(tm 9)),(1,1,(tm 12))]),none⟩,⟨9,1,511,oS 14 (.call (.func 131)
 [(tm 13)]),none⟩,⟨10,1,1023,oS 4 (.mv (tm 14)),none⟩]) ( .ret))⟩
/-- sennet/post.rightStock -/
def f82 : IFn := ⟨7,[.tmp 2],.seq (.region 1 [oS 1 (.box 26 (tm 0)),oS 2 (.mv (.const (.bool false)))]) ( .seq (.region 0 [oS 3 (.fldA 0 (tm 1)),oS 4 (.aslc 8 1 (tm 3) none none none),oS 5 (.call (.func 133) [(tm
 4),(.func 134)]),oS 6 (.un .not (tm 5)),oS 2 (.mv (tm 6))]) ( .ret))⟩
/-- (sennet/post.greeting).text -/
def f83 : IFn := ⟨19,[.tmp 2],.seq (.region 1 [oS 1 (.box 133 (tm 0)),oS 2 (.mv (.const (.string ⟨#[]⟩)))]) ( .seq (.region 0 [oS 3 (.mv (.const (.string ⟨#[104,97,118,101]⟩)))]) ( .seq (.seq (.region 0 [oS 6 (.fldA 0
 (tm 1)),oS 7 (.load (some 8) (tm 6)),oS 8 (.mv (ci 0))]) ( .block 0 ( .loop ( .seq (.region 0 [oS 9 (.bin .lss (tm 8) (ci 8))]) ( .seq (.cond (tm 9) ( .skip) ( .exit 0)) ( .seq (.block 1 ( .seq
 (.region 0 [oS 10 (.idx 8 none 1 (tm 7) (tm 8)),oS 5 (.mv (tm 10))]) ( .region 0 [oS 11 (.mv (tm 3)),oS 12 (.mv (tm 5)),oS 13 (.call (.func 125) [(tm 12)]),oS 14 (.bin .add (.const (.string ⟨#[32]⟩))
 (tm 13)),oS 15 (.bin .add (tm 11) (tm 14)),oS 3 (.mv (tm 15))]))) ( .region 0 [oS 16 (.bin .add (tm 8) (ci 1)),oS 8 (.mv (tm 16))]))))))) ( .seq (.region 0 [oS 17 (.mv (tm 3)),oS 18 (.bin .add (tm
 17) (.const (.string ⟨#[10]⟩))),oS 2 (.mv (tm 18))]) ( .ret))))⟩
/-- sennet/post.letterOf -/
def f88 : IFn := ⟨24,[.tmp 2],.seq (.region 0 [oS 2 (.mv (ci 0))]) ( .seq (.seq (.region 0 [oS 3 (.mv (tm 0)),oS 4 (.ln (tm 3)),oS 5 (.bin .eql (tm 4) (ci 0)),oS 6 (.mv (tm 5)),oG 7 (.mv (tm 0)) 6 false,oG 8 (.call
 (.func 135) [(tm 7),(.func 136)]) 6 false,oS 9 (.pick (tm 6) (.const (.bool true)) (tm 8)),oS 10 (.mv (tm 9)),oG 11 (.mv (tm 0)) 10 false,oG 12 (.call (.func 100) [(tm 11),(.func 119)]) 10 false,oG
 13 (.un .not (tm 12)) 10 false,oS 14 (.pick (tm 10) (.const (.bool true)) (tm 13))]) ( .cond (tm 14) ( .seq (.region 0 [oS 2 (.mv (ci 1))]) ( .ret)) ( .skip))) ( .seq (.seq (.region 0 [oS 15 (.mv (tm
 0)),oS 16 (.ln (tm 15)),oS 17 (.bin .gtr (tm 16) (ci 64)),oS 18 (.mv (tm 17)),oG 19 (.mv (tm 0)) 18 false,oG 20 (.call (.func 89) [(tm 19)]) 18 false,oG 21 (.sln (tm 20)) 18 false,oG 22 (.bin .gtr
 (tm 21) (ci 60000)) 18 false,oS 23 (.pick (tm 18) (.const (.bool true)) (tm 22))]) ( .cond (tm 23) ( .seq (.region 0 [oS 2 (.mv (ci 2))]) ( .ret)) ( .skip))) ( .seq (.region 0 [oS 2 (.mv (ci 0))]) (
 .ret))))⟩
/-- (sennet/post.letter).text -/
def f89 : IFn := ⟨23,[.tmp 2],.seq (.region 0 [oS 2 (.mv (.const (.string ⟨#[]⟩)))]) ( .seq (.region 1 [oS 3 (.alloc 203 [(.pointer none),(.slice none 0 0)])]) ( .seq (.region 0 [oS 6 (.mv (tm 0)),oS 7 (.ln (tm 6)),oS
 8 (.call (.func 125) [(tm 7)]),oS 9 (.bin .add (.const (.string ⟨#[110,111,116,101,115,32]⟩)) (tm 8)),oS 10 (.bin .add (tm 9) (.const (.string ⟨#[10]⟩))),oS 11 (.call (.func 137) [(tm 3),(tm 10)])])
 ( .seq (.seq (.region 0 [oS 12 (.mv (tm 0)),oS 13 (.ln (tm 12)),oS 14 (.mv (ci 0))]) ( .block 0 ( .loop ( .seq (.region 0 [oS 15 (.bin .lss (tm 14) (tm 13))]) ( .seq (.cond (tm 15) ( .skip) ( .exit
 0)) ( .seq (.block 1 ( .seq (.region 1 [oS 16 (.idxA none 4 (tm 12) (tm 14)),oS 17 (.load (some 4) (tm 16)),oS 5 (.alloc 104 [(.int .i64 0),(.int .i64 0),(.int .i64 0),(.string ⟨#[]⟩)]),oN (.store 4
 (tm 5) (tm 17))]) ( .region 0 [oS 18 (.load (some 4) (tm 5)),oS 19 (.call (.func 138) [(tm 18)]),oS 20 (.call (.func 137) [(tm 3),(tm 19)])]))) ( .region 0 [oS 21 (.bin .add (tm 14) (ci 1)),oS 14
 (.mv (tm 21))]))))))) ( .seq (.region 0 [oS 22 (.call (.func 139) [(tm 3)]),oS 2 (.mv (tm 22))]) ( .ret)))))⟩
/-- (*sennet/post.Disk).state -/
def f95 : IFn := ⟨9,[.tmp 2],.seq (.region 0 [oS 2 (.mv (ci 0))]) ( .seq (.seq (.region 0 [oS 3 (.mv (tm 0)),oS 4 (.eqn .ptr false (tm 3) (.const (.pointer none)))]) ( .cond (tm 4) ( .seq (.region 0 [oS 2 (.mv (ci
 3))]) ( .ret)) ( .skip))) ( .seq (.seq (.region 0 [oS 5 (.mv (tm 0)),oS 6 (.nilc (tm 5)),oS 7 (.fldA 3 (tm 6)),oS 8 (.load none (tm 7))]) ( .cond (tm 8) ( .seq (.region 0 [oS 2 (.mv (ci 80))]) (
 .ret)) ( .skip))) ( .seq (.region 0 [oS 2 (.mv (ci 0))]) ( .ret))))⟩
/-- sennet/post.rising[sennet/api.Note] -/
def f100 : IFn := ⟨24,[.tmp 4],.seq (.region 0 [oS 4 (.mv (.const (.bool false)))]) ( .seq (.seq (.region 0 [oS 5 (.mv (ci 1))]) ( .block 0 ( .loop ( .seq (.seq (.region 0 [oS 6 (.mv (tm 5)),oS 7 (.mv (tm 0)),oS 8 (.ln
 (tm 7)),oS 9 (.bin .lss (tm 6) (tm 8))]) ( .cond (tm 9) ( .skip) ( .exit 0))) ( .seq (.block 1 ( .seq (.draw 0 [⟨0,0,0,oS 12 (.mv (tm 1)),none⟩,⟨1,0,0,oS 13 (.mv (tm 0)),none⟩,⟨2,0,0,oS 14 (.mv (tm
 5)),none⟩,⟨3,0,4,oS 15 (.bin .sub (tm 14) (ci 1)),none⟩,⟨4,0,14,oS 16 (.idxA none 4 (tm 13) (tm 15)),none⟩,⟨5,0,30,oS 17 (.load (some 4) (tm 16)),none⟩,⟨6,0,0,oS 18 (.mv (tm 0)),none⟩,⟨7,0,0,oS 19
 (.mv (tm 5)),none⟩,⟨8,0,192,oS 20 (.idxA none 4 (tm 18) (tm 19)),none⟩,⟨9,0,448,oS 21 (.load (some 4) (tm 20)),none⟩,⟨10,0,1023,oS 22 (.call (tm 12) [(tm 17),(tm 21)]),none⟩,⟨11,0,2047,oS 23 (.bin
 .geq (tm 22) (ci 0)),none⟩]) ( .cond (tm 23) ( .seq (.region 0 [oS 4 (.mv (.const (.bool false)))]) ( .ret)) ( .skip)))) ( .region 0 [oS 10 (.mv (tm 5)),oS 11 (.bin .add (tm 10) (ci 1)),oS 5 (.mv (tm
 11))])))))) ( .seq (.region 0 [oS 4 (.mv (.const (.bool true)))]) ( .ret)))⟩
/-- sennet/post.rightNote -/
def f101 : IFn := ⟨37,[.tmp 2],.seq (.region 1 [oS 1 (.box 104 (tm 0)),oS 2 (.mv (.const (.bool false)))]) ( .seq (.region 0 [oS 3 (.fldA 0 (tm 1)),oS 4 (.load none (tm 3)),oS 5 (.bin .geq (tm 4) (ci 0)),oS 6 (.mv (tm
 5)),oG 7 (.fldA 0 (tm 1)) 6 true,oG 8 (.load none (tm 7)) 6 true,oG 9 (.bin .lss (tm 8) (ci 8)) 6 true,oS 10 (.pick (tm 6) (tm 9) (.const (.bool false))),oS 11 (.mv (tm 10)),oG 12 (.fldA 1 (tm 1)) 11
 true,oG 13 (.load none (tm 12)) 11 true,oG 14 (.bin .geq (tm 13) (ci 1)) 11 true,oS 15 (.pick (tm 11) (tm 14) (.const (.bool false))),oS 16 (.mv (tm 15)),oG 17 (.fldA 1 (tm 1)) 16 true,oG 18 (.load
 none (tm 17)) 16 true,oG 19 (.bin .leq (tm 18) (ci 2000)) 16 true,oS 20 (.pick (tm 16) (tm 19) (.const (.bool false))),oS 21 (.mv (tm 20)),oG 22 (.fldA 2 (tm 1)) 21 true,oG 23 (.load none (tm 22)) 21
 true,oG 24 (.bin .geq (tm 23) (ci 0)) 21 true,oS 25 (.pick (tm 21) (tm 24) (.const (.bool false))),oS 26 (.mv (tm 25)),oG 27 (.fldA 2 (tm 1)) 26 true,oG 28 (.load none (tm 27)) 26 true,oG 29 (.bin
 .leq (tm 28) (ci 100000)) 26 true,oS 30 (.pick (tm 26) (tm 29) (.const (.bool false))),oS 31 (.mv (tm 30)),oG 32 (.fldA 3 (tm 1)) 31 true,oG 33 (.load none (tm 32)) 31 true,oG 34 (.sln (tm 33)) 31
 true,oG 35 (.bin .leq (tm 34) (ci 8000)) 31 true,oS 36 (.pick (tm 31) (tm 35) (.const (.bool false))),oS 2 (.mv (tm 36))]) ( .ret))⟩
/-- (*sennet/post.Disk).place -/
def f110 : IFn := ⟨22,[.tmp 4],.seq (.region 0 [oS 4 (.mv (ci 0))]) ( .seq (.seq (.region 0 [oS 6 (.mv (tm 0)),oS 7 (.call (.func 95) [(tm 6)]),oS 5 (.mv (tm 7))]) ( .seq (.region 0 [oS 8 (.mv (tm 5)),oS 9 (.bin .neq
 (tm 8) (ci 0))]) ( .cond (tm 9) ( .seq (.region 0 [oS 10 (.mv (tm 5)),oS 4 (.mv (tm 10))]) ( .ret)) ( .skip)))) ( .seq (.seq (.region 0 [oS 11 (.mv (tm 1)),oS 12 (.bin .lss (tm 11) (ci 0)),oS 13 (.mv
 (tm 12)),oG 14 (.mv (tm 1)) 13 false,oG 15 (.mv (tm 0)) 13 false,oG 16 (.nilc (tm 15)) 13 false,oG 17 (.fldA 1 (tm 16)) 13 false,oG 18 (.load none (tm 17)) 13 false,oG 19 (.ln (tm 18)) 13 false,oG 20
 (.bin .geq (tm 14) (tm 19)) 13 false,oS 21 (.pick (tm 13) (.const (.bool true)) (tm 20))]) ( .cond (tm 21) ( .seq (.region 0 [oS 4 (.mv (ci 1))]) ( .ret)) ( .skip))) ( .seq (.region 0 [oS 4 (.mv (ci
 0))]) ( .ret))))⟩
/-- (*sennet/post.Disk).power -/
def f112 : IFn := ⟨23,[.tmp 2],.seq (.region 0 [oS 2 (.mv (.const (.bool false)))]) ( .seq (.seq (.region 0 [oS 3 (.mv (tm 0)),oS 4 (.nilc (tm 3)),oS 5 (.fldA 4 (tm 4)),oS 6 (.load none (tm 5)),oS 7 (.bin .eql (tm 6)
 (ci 0))]) ( .cond (tm 7) ( .seq (.region 0 [oS 8 (.mv (tm 0)),oS 9 (.nilc (tm 8)),oS 10 (.fldA 3 (tm 9)),oN (.store 1 (tm 10) (.const (.bool true)))]) ( .seq (.region 0 [oS 2 (.mv (.const (.bool
 false)))]) ( .ret))) ( .skip))) ( .seq (.seq (.region 0 [oS 11 (.mv (tm 0)),oS 12 (.nilc (tm 11)),oS 13 (.fldA 4 (tm 12)),oS 14 (.load none (tm 13)),oS 15 (.bin .gtr (tm 14) (ci 0))]) ( .cond (tm 15)
 ( .region 0 [oS 16 (.mv (tm 0)),oS 17 (.nilc (tm 16)),oS 18 (.fldA 4 (tm 17)),oS 19 (.load none (tm 18)),oS 20 (.bin .sub (tm 19) (ci 1)),oS 21 (.nilc (tm 16)),oS 22 (.fldA 4 (tm 21)),oN (.store 1
 (tm 22) (tm 20))]) ( .skip))) ( .seq (.region 0 [oS 2 (.mv (.const (.bool true)))]) ( .ret))))⟩
end Go.Gx.B

/-
  Functions of this seat, as the abstract machine runs them (printed by a program of mine), part 3.
-/
namespace Go.Gx.B
open Go.Gx
/-- (*sennet/post.Journal).read -/
def f113 : IFn := ⟨54,[.tmp 4,.tmp 5,.tmp 6],.seq (.region 0 [oS 4 (.mv (.const (.string ⟨#[]⟩))),oS 5 (.mv (ci 0)),oS 6 (.mv (.const (.bool false)))]) ( .seq (.region 1 [oS 13 (.mv (tm 0)),oS 14 (.mv (tm 1)),oS 15
 (.call (.func 142) [(tm 13),(tm 14),(.const (.int .u8 1))]),oS 12 (.mv (tm 15)),oS 16 (.extr (tm 12) 0),oS 17 (.extr (tm 12) 1),oS 7 (.alloc 153 (reps 64 (.int .u8 0))),oN (.store 64 (tm 7) (tm
 16)),oS 8 (.mv (tm 17))]) ( .seq (.seq (.region 0 [oS 18 (.mv (tm 8)),oS 19 (.un .not (tm 18))]) ( .cond (tm 19) ( .seq (.region 0 [oS 20 (.mv (tm 1)),oS 4 (.mv (.const (.string ⟨#[]⟩))),oS 5 (.mv
 (tm 20)),oS 6 (.mv (.const (.bool false)))]) ( .ret)) ( .skip))) ( .seq (.region 0 [oS 21 (.load (some 64) (tm 7)),oS 22 (.call (.func 143) [(tm 21)]),oS 9 (.mv (tm 22))]) ( .seq (.region 0 [oS 10
 (.mv (.const (.slice none 0 0)))]) ( .block 0 ( .loop ( .block 1 ( .seq (.seq (.region 0 [oS 23 (.load (some 64) (tm 7)),oS 24 (.call (.func 143) [(tm 23)]),oS 25 (.mv (tm 9)),oS 26 (.bin .neq (tm
 24) (tm 25))]) ( .cond (tm 26) ( .seq (.region 0 [oS 27 (.mv (tm 1)),oS 4 (.mv (.const (.string ⟨#[]⟩))),oS 5 (.mv (tm 27)),oS 6 (.mv (.const (.bool false)))]) ( .ret)) ( .skip))) ( .seq (.region 0
 [oS 28 (.mv (tm 1)),oS 29 (.bin .add (tm 28) (ci 1)),oS 1 (.mv (tm 29))]) ( .seq (.region 0 [oS 30 (.mv (tm 9)),oS 31 (.minb [(tm 30),(ci 59)]),oS 11 (.mv (tm 31))]) ( .seq (.region 1 [oS 32 (.mv (tm
 10)),oS 33 (.mv (tm 11)),oS 34 (.bin .add (ci 4) (tm 33)),oS 35 (.aslc 64 1 (tm 7) (some (ci 4)) (some (tm 34)) none),oS 36 (.app 5 1 1 [(.int .u8 0)] (tm 32) (tm 35)),oS 10 (.mv (tm 36))]) ( .seq
 (.region 0 [oS 37 (.mv (tm 9)),oS 38 (.mv (tm 11)),oS 39 (.bin .sub (tm 37) (tm 38)),oS 9 (.mv (tm 39))]) ( .seq (.seq (.region 0 [oS 40 (.mv (tm 9)),oS 41 (.bin .eql (tm 40) (ci 0))]) ( .cond (tm
 41) ( .seq (.region 0 [oS 42 (.mv (tm 10)),oS 43 (.b2s (tm 42)),oS 44 (.mv (tm 1)),oS 4 (.mv (tm 43)),oS 5 (.mv (tm 44)),oS 6 (.mv (.const (.bool true)))]) ( .ret)) ( .skip))) ( .seq (.region 0 [oS
 46 (.mv (tm 0)),oS 47 (.mv (tm 1)),oS 48 (.call (.func 142) [(tm 46),(tm 47),(.const (.int .u8 2))]),oS 45 (.mv (tm 48)),oS 49 (.extr (tm 45) 0),oS 50 (.extr (tm 45) 1),oN (.store 64 (tm 7) (tm
 49)),oS 8 (.mv (tm 50))]) ( .seq (.region 0 [oS 51 (.mv (tm 8)),oS 52 (.un .not (tm 51))]) ( .cond (tm 52) ( .seq (.region 0 [oS 53 (.mv (tm 1)),oS 4 (.mv (.const (.string ⟨#[]⟩))),oS 5 (.mv (tm
 53)),oS 6 (.mv (.const (.bool false)))]) ( .ret)) ( .skip)))))))))))))))))⟩
/-- (*sennet/post.Journal).wipe -/
def f114 : IFn := ⟨47,[.tmp 2],.seq (.region 0 [oS 2 (.mv (ci 0))]) ( .seq (.seq (.region 0 [oS 5 (.mv (tm 0)),oS 6 (.nilc (tm 5)),oS 7 (.fldA 1 (tm 6)),oS 8 (.load none (tm 7)),oS 3 (.mv (tm 8))]) ( .block 0 ( .loop (
 .seq (.seq (.region 0 [oS 9 (.mv (tm 3)),oS 10 (.mv (tm 0)),oS 11 (.nilc (tm 10)),oS 12 (.fldA 0 (tm 11)),oS 13 (.load none (tm 12)),oS 14 (.nilc (tm 13)),oS 15 (.fldA 1 (tm 14)),oS 16 (.load none
 (tm 15)),oS 17 (.ln (tm 16)),oS 18 (.bin .lss (tm 9) (tm 17))]) ( .cond (tm 18) ( .skip) ( .exit 0))) ( .seq (.block 1 ( .seq (.seq (.region 0 [oS 21 (.mv (tm 0)),oS 22 (.nilc (tm 21)),oS 23 (.fldA 0
 (tm 22)),oS 24 (.load none (tm 23)),oS 25 (.nilc (tm 24)),oS 26 (.fldA 1 (tm 25)),oS 27 (.load none (tm 26)),oS 28 (.mv (tm 3)),oS 29 (.idxA none 64 (tm 27) (tm 28)),oS 30 (.load (some 64) (tm
 29)),oS 31 (.build (reps 64 (.int .u8 0)) []),oS 32 (.eqc false (reps 64 (.int .u8)) true (tm 30) (tm 31))]) ( .cond (tm 32) ( .exit 1) ( .skip))) ( .seq (.region 0 [oS 33 (.mv (tm 0)),oS 34 (.nilc
 (tm 33)),oS 35 (.fldA 0 (tm 34)),oS 36 (.load none (tm 35)),oS 37 (.mv (tm 3)),oS 38 (.call (.func 62) [(tm 36),(tm 37),(.const (.slice none 0 0))]),oS 4 (.mv (tm 38))]) ( .seq (.region 0 [oS 39 (.mv
 (tm 4)),oS 40 (.bin .neq (tm 39) (ci 0))]) ( .cond (tm 40) ( .seq (.region 0 [oS 41 (.mv (tm 4)),oS 2 (.mv (tm 41))]) ( .ret)) ( .skip)))))) ( .region 0 [oS 19 (.mv (tm 3)),oS 20 (.bin .add (tm 19)
 (ci 1)),oS 3 (.mv (tm 20))])))))) ( .seq (.region 0 [oS 42 (.mv (tm 0)),oS 43 (.nilc (tm 42)),oS 44 (.fldA 0 (tm 43)),oS 45 (.load none (tm 44)),oS 46 (.call (.func 64) [(tm 45)]),oS 2 (.mv (tm
 46))]) ( .ret)))⟩
/-- (*sennet/post.Journal).put -/
def f115 : IFn := ⟨79,[.tmp 4],.seq (.region 0 [oS 4 (.mv (ci 0))]) ( .seq (.seq (.region 0 [oS 10 (.mv (tm 0)),oS 11 (.nilc (tm 10)),oS 12 (.fldA 0 (tm 11)),oS 13 (.load none (tm 12)),oS 14 (.nilc (tm 13)),oS 15
 (.fldA 3 (tm 14)),oS 16 (.load none (tm 15))]) ( .cond (tm 16) ( .seq (.region 0 [oS 4 (.mv (ci 80))]) ( .ret)) ( .skip))) ( .seq (.region 0 [oS 17 (.mv (tm 1)),oS 18 (.sln (tm 17)),oS 19 (.bin .add
 (tm 18) (ci 59)),oS 20 (.bin .sub (tm 19) (ci 1)),oS 21 (.bin .quo (tm 20) (ci 59)),oS 22 (.maxb [(ci 1),(tm 21)]),oS 5 (.mv (tm 22))]) ( .seq (.seq (.draw 0 [⟨0,0,0,oS 23 (.mv (tm
 5)),none⟩,⟨1,0,0,oS 24 (.mv (tm 0)),none⟩,⟨2,0,2,oS 25 (.nilc (tm 24)),none⟩,⟨3,0,6,oS 26 (.fldA 0 (tm 25)),none⟩,⟨4,0,14,oS 27 (.load none (tm 26)),none⟩,⟨5,0,30,oS 28 (.nilc (tm
 27)),none⟩,⟨6,0,62,oS 29 (.fldA 1 (tm 28)),none⟩,⟨7,0,126,oS 30 (.load none (tm 29)),none⟩,⟨8,0,254,oS 31 (.ln (tm 30)),none⟩,⟨9,0,0,oS 32 (.mv (tm 0)),none⟩,⟨10,0,512,oS 33 (.nilc (tm
 32)),none⟩,⟨11,0,1536,oS 34 (.fldA 1 (tm 33)),none⟩,⟨12,0,3584,oS 35 (.load none (tm 34)),none⟩,⟨13,0,8190,oS 36 (.bin .sub (tm 31) (tm 35)),none⟩,⟨14,0,16383,oS 37 (.bin .gtr (tm 23) (tm
 36)),none⟩]) ( .cond (tm 37) ( .seq (.region 0 [oS 4 (.mv (ci 82))]) ( .ret)) ( .skip))) ( .seq (.region 0 [oS 6 (.mv (.const (.int .u8 1)))]) ( .seq (.seq (.region 0 [oS 38 (.mv (tm 5)),oS 39 (.mv
 (ci 0))]) ( .block 0 ( .loop ( .seq (.region 0 [oS 40 (.bin .lss (tm 39) (tm 38))]) ( .seq (.cond (tm 40) ( .skip) ( .exit 0)) ( .seq (.block 1 ( .seq (.region 0 [oS 41 (.mv (tm 39)),oS 7 (.mv (tm
 41))]) ( .seq (.region 1 [oS 42 (.mv (tm 6)),oS 43 (.mv (tm 1)),oS 44 (.mv (tm 7)),oS 45 (.bin .mul (tm 44) (ci 59)),oS 46 (.sslc (tm 43) (some (tm 45)) none),oS 47 (.call (.func 144) [(tm 42),(tm
 46)]),oS 8 (.alloc 153 (reps 64 (.int .u8 0))),oN (.store 64 (tm 8) (tm 47))]) ( .seq (.seq (.draw 0 [⟨0,0,0,oS 48 (.mv (tm 0)),none⟩,⟨1,0,1,oS 49 (.nilc (tm 48)),none⟩,⟨2,0,3,oS 50 (.fldA 0 (tm
 49)),none⟩,⟨3,0,7,oS 51 (.load none (tm 50)),none⟩,⟨4,0,0,oS 52 (.mv (tm 0)),none⟩,⟨5,0,16,oS 53 (.nilc (tm 52)),none⟩,⟨6,0,48,oS 54 (.fldA 1 (tm 53)),none⟩,⟨7,0,112,oS 55 (.load none (tm
 54)),none⟩,⟨8,0,0,oS 56 (.mv (tm 7)),none⟩,⟨9,0,496,oS 57 (.bin .add (tm 55) (tm 56)),none⟩,⟨10,0,0,oS 58 (.aslc 64 1 (tm 8) none none none),none⟩,⟨11,0,2047,oS 59 (.call (.func 62) [(tm 51),(tm
 57),(tm 58)]),none⟩,⟨12,0,4095,oS 9 (.mv (tm 59)),none⟩]) ( .seq (.region 0 [oS 60 (.mv (tm 9)),oS 61 (.bin .neq (tm 60) (ci 0))]) ( .cond (tm 61) ( .seq (.region 0 [oS 62 (.mv (tm 9)),oS 4 (.mv (tm
 62))]) ( .ret)) ( .skip)))) ( .region 0 [oS 6 (.mv (.const (.int .u8 2)))]))))) ( .region 0 [oS 63 (.bin .add (tm 39) (ci 1)),oS 39 (.mv (tm 63))]))))))) ( .seq (.region 0 [oS 64 (.mv (tm 0)),oS 65
 (.nilc (tm 64)),oS 66 (.fldA 1 (tm 65)),oS 67 (.load none (tm 66)),oS 68 (.mv (tm 5)),oS 69 (.bin .add (tm 67) (tm 68)),oS 70 (.nilc (tm 64)),oS 71 (.fldA 1 (tm 70)),oN (.store 1 (tm 71) (tm 69))]) (
 .seq (.region 0 [oS 72 (.mv (tm 0)),oS 73 (.nilc (tm 72)),oS 74 (.fldA 2 (tm 73)),oS 75 (.load none (tm 74)),oS 76 (.bin .add (tm 75) (ci 1)),oS 77 (.nilc (tm 72)),oS 78 (.fldA 2 (tm 77)),oN (.store
 1 (tm 78) (tm 76))]) ( .seq (.region 0 [oS 4 (.mv (ci 0))]) ( .ret)))))))))⟩
/-- sennet/post.byNumber -/
def f119 : IFn := ⟨17,[.tmp 4],.seq (.region 2 [oS 2 (.box 104 (tm 0)),oS 3 (.box 104 (tm 1)),oS 4 (.mv (ci 0))]) ( .seq (.draw 1 [⟨0,0,0,oS 5 (.fldA 0 (tm 2)),none⟩,⟨1,0,1,oS 6 (.load none (tm 5)),none⟩,⟨2,0,0,oS 7
 (.fldA 0 (tm 3)),none⟩,⟨3,0,4,oS 8 (.load none (tm 7)),none⟩,⟨5,0,0,oS 10 (.fldA 1 (tm 2)),none⟩,⟨6,0,32,oS 11 (.load none (tm 10)),none⟩,⟨7,0,0,oS 12 (.fldA 1 (tm 3)),none⟩,⟨8,0,128,oS 13 (.load
 none (tm 12)),none⟩,⟨4,0,15,oS 9 (.call (.func 132) [(tm 6),(tm 8)]),none⟩,⟨9,0,511,oS 14 (.call (.func 132) [(tm 11),(tm 13)]),none⟩,⟨10,0,1023,oS 15 (.bslice 3 1 [(.int .i64 0),(.int .i64 0)] 2
 [(0,1,(tm 9)),(1,1,(tm 14))]),none⟩,⟨11,1,2047,oS 16 (.call (.func 131) [(tm 15)]),none⟩,⟨12,1,4095,oS 4 (.mv (tm 16)),none⟩]) ( .ret))⟩
/-- sennet/post.fitting -/
def f121 : IFn := ⟨35,[.tmp 2],.seq (.region 0 [oS 2 (.mv (.const (.slice none 0 0)))]) ( .seq (.region 0 [oS 3 (.mv (ci 0))]) ( .seq (.seq (.region 0 [oS 6 (.mv (tm 0)),oS 7 (.ln (tm 6)),oS 8 (.mv (ci 0))]) ( .block 0
 ( .loop ( .seq (.region 0 [oS 9 (.bin .lss (tm 8) (tm 7))]) ( .seq (.cond (tm 9) ( .skip) ( .exit 0)) ( .seq (.block 1 ( .seq (.region 1 [oS 10 (.mv (tm 8)),oS 11 (.idxA none 4 (tm 6) (tm 8)),oS 12
 (.load (some 4) (tm 11)),oS 5 (.alloc 104 [(.int .i64 0),(.int .i64 0),(.int .i64 0),(.string ⟨#[]⟩)]),oS 4 (.mv (tm 10)),oN (.store 4 (tm 5) (tm 12))]) ( .seq (.region 0 [oS 13 (.mv (tm 3)),oS 14
 (.load (some 4) (tm 5)),oS 15 (.call (.func 138) [(tm 14)]),oS 16 (.sln (tm 15)),oS 17 (.bin .add (tm 13) (tm 16)),oS 3 (.mv (tm 17))]) ( .seq (.region 0 [oS 18 (.mv (tm 4)),oS 19 (.bin .eql (tm 18)
 (ci 64)),oS 20 (.mv (tm 19)),oG 21 (.mv (tm 3)) 20 false,oG 22 (.bin .add (tm 21) (ci 7)) 20 false,oG 23 (.mv (tm 4)) 20 false,oG 24 (.bin .add (tm 23) (ci 1)) 20 false,oG 25 (.call (.func 125) [(tm
 24)]) 20 false,oG 26 (.sln (tm 25)) 20 false,oG 27 (.bin .add (tm 22) (tm 26)) 20 false,oG 28 (.bin .gtr (tm 27) (ci 60000)) 20 false,oS 29 (.pick (tm 20) (.const (.bool true)) (tm 28))]) ( .cond (tm
 29) ( .seq (.region 0 [oS 30 (.mv (tm 0)),oS 31 (.mv (tm 4)),oS 32 (.slc 104 4 (tm 30) none (some (tm 31)) none),oS 2 (.mv (tm 32))]) ( .ret)) ( .skip)))))) ( .region 0 [oS 33 (.bin .add (tm 8) (ci
 1)),oS 8 (.mv (tm 33))]))))))) ( .seq (.region 0 [oS 34 (.mv (tm 0)),oS 2 (.mv (tm 34))]) ( .ret))))⟩
/-- strings.Cut -/
def f123 : IFn := ⟨13,[.tmp 4,.tmp 5,.tmp 6],.seq (.region 0 [oS 4 (.mv (.const (.string ⟨#[]⟩))),oS 5 (.mv (.const (.string ⟨#[]⟩))),oS 6 (.mv (.const (.bool false)))]) ( .seq (.region 0 [oS 7 (.mv (tm 0)),oS 8 (.mv
 (tm 1)),oS 9 (.call (.func 147) [(tm 7),(tm 8)]),oS 10 (.extr (tm 9) 0),oS 11 (.extr (tm 9) 1),oS 12 (.extr (tm 9) 2),oS 4 (.mv (tm 10)),oS 5 (.mv (tm 11)),oS 6 (.mv (tm 12))]) ( .ret))⟩
/-- sennet/post.parseAny -/
def f124 : IFn := ⟨14,[.tmp 2,.tmp 3],.seq (.region 0 [oS 2 (.mv (.const (.slice none 0 0))),oS 3 (.mv (.const (.bool false)))]) ( .seq (.region 0 [oS 7 (.mv (tm 0)),oS 8 (.call (.func 77) [(tm 7)]),oS 9 (.tassert 135
 (.slice none 0 0) true (tm 8)),oS 6 (.mv (tm 9)),oS 10 (.extr (tm 6) 0),oS 11 (.extr (tm 6) 1),oS 4 (.mv (tm 10)),oS 5 (.mv (tm 11))]) ( .seq (.region 0 [oS 12 (.mv (tm 4)),oS 13 (.mv (tm 5)),oS 2
 (.mv (tm 12)),oS 3 (.mv (tm 13))]) ( .ret)))⟩
/-- strconv.Itoa -/
def f125 : IFn := ⟨5,[.tmp 2],.seq (.region 0 [oS 2 (.mv (.const (.string ⟨#[]⟩)))]) ( .seq (.region 0 [oS 3 (.mv (tm 0)),oS 4 (.call (.func 148) [(tm 3)]),oS 2 (.mv (tm 4))]) ( .ret))⟩
/-- (*sennet/post.Node).record -/
def f126 : IFn := ⟨14,[.tmp 4],.seq (.region 0 [oS 4 (.mv (.const (.string ⟨#[]⟩)))]) ( .seq (.region 0 [oS 5 (.mv (tm 0)),oS 6 (.nilc (tm 5)),oS 7 (.fldA 1 (tm 6)),oS 8 (.load none (tm 7)),oS 9 (.call (.func 125) [(tm
 8)]),oS 10 (.bin .add (tm 9) (.const (.string ⟨#[10]⟩))),oS 11 (.mv (tm 1)),oS 12 (.call (.func 89) [(tm 11)]),oS 13 (.bin .add (tm 10) (tm 12)),oS 4 (.mv (tm 13))]) ( .ret))⟩
/-- sennet/post.parse$1 -/
def f127 : IFn := ⟨10,[],.seq (.region 0 [oS 4 (.recover)]) ( .block 0 ( .seq (.region 0 [oS 6 (.eqn .iface false (tm 4) (.const .nilIface))]) ( .cond (tm 6) ( .region 0 [oS 1 (.mv (tm 4))]) ( .seq (.region 0 [oS 7
 (.tassert 190 (.agg #[]) true (tm 4)),oS 8 (.extr (tm 7) 1),oS 9 (.extr (tm 7) 0)]) ( .cond (tm 8) ( .seq (.region 1 [oS 2 (.alloc 190 []),oN (.store 0 (tm 2) (tm 9))]) ( .region 0 [oN (.store 1 (tm
 0) (.const .nilIface))])) ( .seq (.region 0 [oS 3 (.mv (tm 4))]) ( .region 0 [oS 5 (.mv (tm 3)),oN (.panic (tm 5))])))))))⟩
/-- strings.CutPrefix -/
def f128 : IFn := ⟨11,[.tmp 4,.tmp 5],.seq (.region 0 [oS 4 (.mv (.const (.string ⟨#[]⟩))),oS 5 (.mv (.const (.bool false)))]) ( .seq (.region 0 [oS 6 (.mv (tm 0)),oS 7 (.mv (tm 1)),oS 8 (.call (.func 149) [(tm 6),(tm
 7)]),oS 9 (.extr (tm 8) 0),oS 10 (.extr (tm 8) 1),oS 4 (.mv (tm 9)),oS 5 (.mv (tm 10))]) ( .ret))⟩
/-- sennet/post.reader -/
def f129 : IFn := ⟨10,[.tmp 2,.tmp 3,.tmp 4],.seq (.region 1 [oS 1 (.box 9 (tm 0)),oS 2 (.mv (.const .nilFunc)),oS 3 (.mv (.const .nilFunc)),oS 4 (.mv (.const .nilFunc))]) ( .seq (.region 0 [oS 5 (.mkfn (.func 150) []
 [(tm 1)]),oS 2 (.mv (tm 5))]) ( .seq (.region 0 [oS 6 (.mkfn (.func 153) [] [(tm 1)]),oS 3 (.mv (tm 6))]) ( .seq (.region 0 [oS 7 (.mv (tm 2)),oS 8 (.mv (tm 3)),oS 9 (.mkfn (.func 154) [] [(tm
 1)]),oS 2 (.mv (tm 7)),oS 3 (.mv (tm 8)),oS 4 (.mv (tm 9))]) ( .ret))))⟩
/-- (*sennet/post.Node).taken -/
def f130 : IFn := ⟨98,[.tmp 4,.tmp 5],.seq (.region 0 [oS 4 (.mv (.const (.slice none 0 0))),oS 5 (.mv (ci 0))]) ( .seq (.region 1 [oS 11 (.mv (tm 0)),oS 12 (.nilc (tm 11)),oS 13 (.fldA 2 (tm 12)),oS 14 (.load (some 8)
 (tm 13)),oS 6 (.alloc 125 (reps 8 (.slice none 0 0))),oN (.store 8 (tm 6) (tm 14))]) ( .seq (.region 0 [oS 7 (.mv (.const (.slice none 0 0)))]) ( .seq (.seq (.region 0 [oS 15 (.mv (tm 1)),oS 16 (.ln
 (tm 15)),oS 17 (.mv (ci 0))]) ( .block 0 ( .loop ( .seq (.region 0 [oS 18 (.bin .lss (tm 17) (tm 16))]) ( .seq (.cond (tm 18) ( .skip) ( .exit 0)) ( .seq (.block 1 ( .seq (.region 1 [oS 19 (.idxA
 none 4 (tm 15) (tm 17)),oS 20 (.load (some 4) (tm 19)),oS 9 (.alloc 104 [(.int .i64 0),(.int .i64 0),(.int .i64 0),(.string ⟨#[]⟩)]),oN (.store 4 (tm 9) (tm 20))]) ( .seq (.region 0 [oS 21 (.fldA 0
 (tm 9)),oS 22 (.load none (tm 21)),oS 23 (.idxA (some 8) 1 (tm 6) (tm 22)),oS 24 (.load none (tm 23)),oS 10 (.mv (tm 24))]) ( .block 2 ( .seq (.draw 0 [⟨0,0,0,oS 26 (.fldA 0 (tm 9)),none⟩,⟨1,0,1,oS
 27 (.load none (tm 26)),none⟩,⟨2,0,0,oS 28 (.mv (tm 0)),none⟩,⟨3,0,4,oS 29 (.nilc (tm 28)),none⟩,⟨4,0,12,oS 30 (.fldA 1 (tm 29)),none⟩,⟨5,0,28,oS 31 (.load none (tm 30)),none⟩,⟨6,0,63,oS 32 (.bin
 .eql (tm 27) (tm 31)),none⟩,⟨7,0,127,oS 33 (.mv (tm 32)),none⟩,⟨8,0,255,oG 34 (.fldA 1 (tm 9)) 33 true,none⟩,⟨9,0,511,oG 35 (.load none (tm 34)) 33 true,none⟩,⟨10,0,255,oG 36 (.mv (tm 0)) 33
 true,none⟩,⟨11,0,255,oG 37 (.mv (tm 0)) 33 true,none⟩,⟨12,0,2303,oG 38 (.nilc (tm 37)) 33 true,none⟩,⟨13,0,6399,oG 39 (.fldA 1 (tm 38)) 33 true,none⟩,⟨14,0,14591,oG 40 (.load none (tm 39)) 33
 true,none⟩,⟨15,0,1279,oG 41 (.nilc (tm 36)) 33 true,none⟩,⟨16,0,34047,oG 42 (.fldA 2 (tm 41)) 33 true,none⟩,⟨17,0,130303,oG 43 (.idxA (some 8) 1 (tm 42) (tm 40)) 33 true,none⟩,⟨18,0,261375,oG 44
 (.load none (tm 43)) 33 true,none⟩,⟨19,0,523519,oG 45 (.ln (tm 44)) 33 true,none⟩,⟨20,0,1048575,oG 46 (.bin .gtr (tm 35) (tm 45)) 33 true,none⟩,⟨21,0,2097151,oS 47 (.pick (tm 33) (tm 46) (.const
 (.bool false))),none⟩,⟨22,0,4194303,oS 25 (.mv (tm 47)),none⟩]) ( .cond (tm 25) ( .seq (.region 0 [oS 4 (.mv (.const (.slice none 0 0))),oS 5 (.mv (ci 8))]) ( .ret)) ( .seq (.region 0 [oS 49 (.fldA 1
 (tm 9)),oS 50 (.load none (tm 49)),oS 51 (.mv (tm 10)),oS 52 (.ln (tm 51)),oS 53 (.bin .leq (tm 50) (tm 52)),oS 48 (.mv (tm 53))]) ( .cond (tm 48) ( .seq (.draw 0 [⟨0,0,0,oS 54 (.mv (tm
 10)),none⟩,⟨1,0,0,oS 55 (.fldA 1 (tm 9)),none⟩,⟨2,0,2,oS 56 (.load none (tm 55)),none⟩,⟨3,0,6,oS 57 (.bin .sub (tm 56) (ci 1)),none⟩,⟨4,0,15,oS 58 (.idxA none 4 (tm 54) (tm 57)),none⟩,⟨5,0,31,oS 59
 (.load (some 4) (tm 58)),none⟩,⟨6,0,0,oS 60 (.load (some 4) (tm 9)),none⟩,⟨7,0,127,oS 61 (.eqc true [(.int .i64),(.int .i64),(.int .i64),.str] true (tm 59) (tm 60)),none⟩]) ( .cond (tm 61) ( .seq
 (.region 0 [oS 4 (.mv (.const (.slice none 0 0))),oS 5 (.mv (ci 8))]) ( .ret)) ( .skip))) ( .seq (.region 0 [oS 63 (.fldA 1 (tm 9)),oS 64 (.load none (tm 63)),oS 65 (.mv (tm 10)),oS 66 (.ln (tm
 65)),oS 67 (.bin .add (tm 66) (ci 1)),oS 68 (.bin .eql (tm 64) (tm 67)),oS 62 (.mv (tm 68))]) ( .cond (tm 62) ( .seq (.seq (.draw 0 [⟨0,0,0,oS 69 (.mv (tm 10)),none⟩,⟨1,0,1,oS 70 (.ln (tm
 69)),none⟩,⟨2,0,3,oS 71 (.bin .gtr (tm 70) (ci 0)),none⟩,⟨3,0,7,oS 72 (.mv (tm 71)),none⟩,⟨4,0,15,oG 73 (.fldA 2 (tm 9)) 72 true,none⟩,⟨5,0,31,oG 74 (.load none (tm 73)) 72 true,none⟩,⟨6,0,15,oG 75
 (.mv (tm 10)) 72 true,none⟩,⟨7,0,15,oG 76 (.mv (tm 10)) 72 true,none⟩,⟨8,0,143,oG 77 (.ln (tm 76)) 72 true,none⟩,⟨9,0,399,oG 78 (.bin .sub (tm 77) (ci 1)) 72 true,none⟩,⟨10,0,975,oG 79 (.idxA none 4
 (tm 75) (tm 78)) 72 true,none⟩,⟨11,0,1999,oG 80 (.fldA 2 (tm 79)) 72 true,none⟩,⟨12,0,4047,oG 81 (.load none (tm 80)) 72 true,none⟩,⟨13,0,8191,oG 82 (.bin .lss (tm 74) (tm 81)) 72
 true,none⟩,⟨14,0,16383,oS 83 (.pick (tm 72) (tm 82) (.const (.bool false))),none⟩]) ( .cond (tm 83) ( .seq (.region 0 [oS 4 (.mv (.const (.slice none 0 0))),oS 5 (.mv (ci 8))]) ( .ret)) ( .skip))) (
 .seq (.draw 2 [⟨0,0,0,oS 84 (.fldA 0 (tm 9)),none⟩,⟨1,0,1,oS 85 (.load none (tm 84)),none⟩,⟨2,0,0,oS 86 (.mv (tm 10)),none⟩,⟨4,0,0,oS 88 (.load (some 4) (tm 9)),none⟩,⟨5,0,16,oS 89 (.bslice 104 4
 [(.int .i64 0),(.int .i64 0),(.int .i64 0),(.string ⟨#[]⟩)] 1 [(0,4,(tm 88))]),none⟩,⟨3,0,4,oS 87 (.call (.func 155) [(tm 86)]),none⟩,⟨6,1,60,oS 90 (.app 104 4 40 [(.int .i64 0),(.int .i64 0),(.int
 .i64 0),(.string ⟨#[]⟩)] (tm 87) (tm 89)),none⟩,⟨7,2,127,oS 91 (.idxA (some 8) 1 (tm 6) (tm 85)),none⟩,⟨8,2,255,oN (.store 1 (tm 91) (tm 90)),none⟩]) ( .region 2 [oS 92 (.mv (tm 7)),oS 93 (.load
 (some 4) (tm 9)),oS 94 (.bslice 104 4 [(.int .i64 0),(.int .i64 0),(.int .i64 0),(.string ⟨#[]⟩)] 1 [(0,4,(tm 93))]),oS 95 (.app 104 4 40 [(.int .i64 0),(.int .i64 0),(.int .i64 0),(.string ⟨#[]⟩)]
 (tm 92) (tm 94)),oS 7 (.mv (tm 95))]))) ( .skip))))))))))) ( .region 0 [oS 96 (.bin .add (tm 17) (ci 1)),oS 17 (.mv (tm 96))]))))))) ( .seq (.region 0 [oS 97 (.mv (tm 7)),oS 4 (.mv (tm 97)),oS 5 (.mv
 (ci 0))]) ( .ret)))))⟩
/-- cmp.Or[int] -/
def f131 : IFn := ⟨18,[.tmp 2],.seq (.region 0 [oS 2 (.mv (ci 0))]) ( .seq (.region 0 [oS 3 (.mv (ci 0))]) ( .seq (.seq (.region 0 [oS 6 (.mv (tm 0)),oS 7 (.ln (tm 6)),oS 8 (.mv (ci 0))]) ( .block 0 ( .loop ( .seq
 (.region 0 [oS 9 (.bin .lss (tm 8) (tm 7))]) ( .seq (.cond (tm 9) ( .skip) ( .exit 0)) ( .seq (.block 1 ( .seq (.region 0 [oS 10 (.idxA none 1 (tm 6) (tm 8)),oS 11 (.load none (tm 10)),oS 5 (.mv (tm
 11))]) ( .seq (.region 0 [oS 12 (.mv (tm 5)),oS 13 (.mv (tm 3)),oS 14 (.bin .neq (tm 12) (tm 13))]) ( .cond (tm 14) ( .seq (.region 0 [oS 15 (.mv (tm 5)),oS 2 (.mv (tm 15))]) ( .ret)) ( .skip))))) (
 .region 0 [oS 16 (.bin .add (tm 8) (ci 1)),oS 8 (.mv (tm 16))]))))))) ( .seq (.region 0 [oS 17 (.mv (tm 3)),oS 2 (.mv (tm 17))]) ( .ret))))⟩
/-- cmp.Compare[int] -/
def f132 : IFn := ⟨20,[.tmp 4],.seq (.region 0 [oS 4 (.mv (ci 0))]) ( .seq (.region 0 [oS 7 (.mv (tm 0)),oS 8 (.call (.func 156) [(tm 7)]),oS 5 (.mv (tm 8))]) ( .seq (.region 0 [oS 9 (.mv (tm 1)),oS 10 (.call (.func
 156) [(tm 9)]),oS 6 (.mv (tm 10))]) ( .seq (.seq (.region 0 [oS 11 (.mv (tm 5))]) ( .cond (tm 11) ( .seq (.seq (.region 0 [oS 12 (.mv (tm 6))]) ( .cond (tm 12) ( .seq (.region 0 [oS 4 (.mv (ci 0))])
 ( .ret)) ( .skip))) ( .seq (.region 0 [oS 4 (.mv (.const (.int .i64 (-1))))]) ( .ret))) ( .skip))) ( .seq (.seq (.region 0 [oS 13 (.mv (tm 6))]) ( .cond (tm 13) ( .seq (.region 0 [oS 4 (.mv (ci 1))])
 ( .ret)) ( .skip))) ( .seq (.seq (.region 0 [oS 14 (.mv (tm 0)),oS 15 (.mv (tm 1)),oS 16 (.bin .lss (tm 14) (tm 15))]) ( .cond (tm 16) ( .seq (.region 0 [oS 4 (.mv (.const (.int .i64 (-1))))]) (
 .ret)) ( .skip))) ( .seq (.seq (.region 0 [oS 17 (.mv (tm 0)),oS 18 (.mv (tm 1)),oS 19 (.bin .gtr (tm 17) (tm 18))]) ( .cond (tm 19) ( .seq (.region 0 [oS 4 (.mv (ci 1))]) ( .ret)) ( .skip))) ( .seq
 (.region 0 [oS 4 (.mv (ci 0))]) ( .ret))))))))⟩
/-- slices.ContainsFunc[[]int,int] -/
def f133 : IFn := ⟨9,[.tmp 4],.seq (.region 0 [oS 4 (.mv (.const (.bool false)))]) ( .seq (.region 0 [oS 5 (.mv (tm 0)),oS 6 (.mv (tm 1)),oS 7 (.call (.func 157) [(tm 5),(tm 6)]),oS 8 (.bin .geq (tm 7) (ci 0)),oS 4
 (.mv (tm 8))]) ( .ret))⟩
/-- sennet/post.rightStock$1 -/
def f134 : IFn := ⟨9,[.tmp 2],.seq (.region 0 [oS 2 (.mv (.const (.bool false)))]) ( .seq (.region 0 [oS 3 (.mv (tm 0)),oS 4 (.bin .lss (tm 3) (ci 0)),oS 5 (.mv (tm 4)),oG 6 (.mv (tm 0)) 5 false,oG 7 (.bin .gtr (tm 6)
 (ci 2000)) 5 false,oS 8 (.pick (tm 5) (.const (.bool true)) (tm 7)),oS 2 (.mv (tm 8))]) ( .ret))⟩
/-- slices.ContainsFunc[[]sennet/api.Note,sennet/api.Note] -/
def f135 : IFn := ⟨9,[.tmp 4],.seq (.region 0 [oS 4 (.mv (.const (.bool false)))]) ( .seq (.region 0 [oS 5 (.mv (tm 0)),oS 6 (.mv (tm 1)),oS 7 (.call (.func 158) [(tm 5),(tm 6)]),oS 8 (.bin .geq (tm 7) (ci 0)),oS 4
 (.mv (tm 8))]) ( .ret))⟩
/-- sennet/post.letterOf$1 -/
def f136 : IFn := ⟨6,[.tmp 2],.seq (.region 1 [oS 1 (.box 104 (tm 0)),oS 2 (.mv (.const (.bool false)))]) ( .seq (.region 0 [oS 3 (.load (some 4) (tm 1)),oS 4 (.call (.func 101) [(tm 3)]),oS 5 (.un .not (tm 4)),oS 2
 (.mv (tm 5))]) ( .ret))⟩
/-- (*strings.Builder).WriteString -/
def f137 : IFn := ⟨19,[.tmp 4,.tmp 5],.seq (.region 0 [oS 4 (.mv (ci 0)),oS 5 (.mv (.const .nilIface))]) ( .seq (.region 0 [oS 6 (.mv (tm 0)),oS 7 (.call (.func 159) [(tm 6)])]) ( .seq (.region 1 [oS 8 (.mv (tm 0)),oS
 9 (.mv (tm 0)),oS 10 (.nilc (tm 9)),oS 11 (.fldA 1 (tm 10)),oS 12 (.load none (tm 11)),oS 13 (.mv (tm 1)),oS 14 (.app 5 1 1 [(.int .u8 0)] (tm 12) (tm 13)),oS 15 (.nilc (tm 8)),oS 16 (.fldA 1 (tm
 15)),oN (.store 1 (tm 16) (tm 14))]) ( .seq (.region 0 [oS 17 (.mv (tm 1)),oS 18 (.sln (tm 17)),oS 4 (.mv (tm 18)),oS 5 (.mv (.const .nilIface))]) ( .ret))))⟩
/-- sennet/post.noteText -/
def f138 : IFn := ⟨27,[.tmp 2],.seq (.region 1 [oS 1 (.box 104 (tm 0)),oS 2 (.mv (.const (.string ⟨#[]⟩)))]) ( .seq (.draw 0 [⟨0,0,0,oS 3 (.fldA 0 (tm 1)),none⟩,⟨1,0,1,oS 4 (.load none (tm 3)),none⟩,⟨4,0,0,oS 7 (.fldA
 1 (tm 1)),none⟩,⟨5,0,16,oS 8 (.load none (tm 7)),none⟩,⟨9,0,0,oS 12 (.fldA 2 (tm 1)),none⟩,⟨10,0,512,oS 13 (.load none (tm 12)),none⟩,⟨14,0,0,oS 17 (.fldA 3 (tm 1)),none⟩,⟨15,0,16384,oS 18 (.load
 none (tm 17)),none⟩,⟨16,0,49152,oS 19 (.sln (tm 18)),none⟩,⟨20,0,0,oS 23 (.fldA 3 (tm 1)),none⟩,⟨21,0,1048576,oS 24 (.load none (tm 23)),none⟩,⟨2,0,3,oS 5 (.call (.func 125) [(tm 4)]),none⟩,⟨3,0,7,oS
 6 (.bin .add (tm 5) (.const (.string ⟨#[32]⟩))),none⟩,⟨6,0,55,oS 9 (.call (.func 125) [(tm 8)]),none⟩,⟨7,0,127,oS 10 (.bin .add (tm 6) (tm 9)),none⟩,⟨8,0,255,oS 11 (.bin .add (tm 10) (.const (.string
 ⟨#[32]⟩))),none⟩,⟨11,0,1655,oS 14 (.call (.func 125) [(tm 13)]),none⟩,⟨12,0,4095,oS 15 (.bin .add (tm 11) (tm 14)),none⟩,⟨13,0,8191,oS 16 (.bin .add (tm 15) (.const (.string
 ⟨#[32]⟩))),none⟩,⟨17,0,118391,oS 20 (.call (.func 125) [(tm 19)]),none⟩,⟨18,0,262143,oS 21 (.bin .add (tm 16) (tm 20)),none⟩,⟨19,0,524287,oS 22 (.bin .add (tm 21) (.const (.string
 ⟨#[10]⟩))),none⟩,⟨22,0,4194303,oS 25 (.bin .add (tm 22) (tm 24)),none⟩,⟨23,0,8388607,oS 26 (.bin .add (tm 25) (.const (.string ⟨#[10]⟩))),none⟩,⟨24,0,16777215,oS 2 (.mv (tm 26)),none⟩]) ( .ret))⟩
/-- (*sennet/post.Journal).whole -/
def f142 : IFn := ⟨40,[.cell 6 (some 64),.tmp 7],.seq (.region 1 [oS 6 (.alloc 153 (reps 64 (.int .u8 0))),oS 7 (.mv (.const (.bool false)))]) ( .seq (.seq (.region 0 [oS 9 (.mv (tm 1)),oS 10 (.mv (tm 0)),oS 11 (.nilc
 (tm 10)),oS 12 (.fldA 0 (tm 11)),oS 13 (.load none (tm 12)),oS 14 (.nilc (tm 13)),oS 15 (.fldA 1 (tm 14)),oS 16 (.load none (tm 15)),oS 17 (.ln (tm 16)),oS 18 (.bin .geq (tm 9) (tm 17))]) ( .cond (tm
 18) ( .seq (.region 0 [oS 19 (.build (reps 64 (.int .u8 0)) []),oN (.store 64 (tm 6) (tm 19)),oS 7 (.mv (.const (.bool false)))]) ( .ret)) ( .skip))) ( .seq (.region 1 [oS 20 (.mv (tm 0)),oS 21
 (.nilc (tm 20)),oS 22 (.fldA 0 (tm 21)),oS 23 (.load none (tm 22)),oS 24 (.nilc (tm 23)),oS 25 (.fldA 1 (tm 24)),oS 26 (.load none (tm 25)),oS 27 (.mv (tm 1)),oS 28 (.idxA none 64 (tm 26) (tm 27)),oS
 29 (.load (some 64) (tm 28)),oS 8 (.alloc 153 (reps 64 (.int .u8 0))),oN (.store 64 (tm 8) (tm 29))]) ( .seq (.draw 0 [⟨0,0,0,oS 30 (.load (some 64) (tm 8)),none⟩,⟨1,0,0,oS 31 (.idxA (some 64) 1 (tm
 8) (ci 0)),none⟩,⟨2,0,2,oS 32 (.load none (tm 31)),none⟩,⟨3,0,0,oS 33 (.mv (tm 2)),none⟩,⟨4,0,14,oS 34 (.bin .eql (tm 32) (tm 33)),none⟩,⟨5,0,30,oS 35 (.mv (tm 34)),none⟩,⟨6,0,62,oG 36 (.idxA (some
 64) 1 (tm 8) (ci 63)) 35 true,none⟩,⟨7,0,126,oG 37 (.load none (tm 36)) 35 true,none⟩,⟨8,0,254,oG 38 (.bin .eql (tm 37) (.const (.int .u8 1))) 35 true,none⟩,⟨9,0,510,oS 39 (.pick (tm 35) (tm 38)
 (.const (.bool false))),none⟩,⟨10,0,63,oN (.store 64 (tm 6) (tm 30)),none⟩,⟨11,0,2047,oS 7 (.mv (tm 39)),none⟩]) ( .ret))))⟩
/-- (sennet/post.sector).size -/
def f143 : IFn := ⟨16,[.tmp 2],.seq (.region 1 [oS 1 (.box 153 (tm 0)),oS 2 (.mv (ci 0))]) ( .seq (.region 0 [oS 3 (.idxA (some 64) 1 (tm 1) (ci 1)),oS 4 (.load none (tm 3)),oS 5 (.conv .i64 (tm 4)),oS 6 (.idxA (some
 64) 1 (tm 1) (ci 2)),oS 7 (.load none (tm 6)),oS 8 (.conv .i64 (tm 7)),oS 9 (.bin .shl (tm 8) (.const (.int .u64 8))),oS 10 (.bin .add (tm 5) (tm 9)),oS 11 (.idxA (some 64) 1 (tm 1) (ci 3)),oS 12
 (.load none (tm 11)),oS 13 (.conv .i64 (tm 12)),oS 14 (.bin .shl (tm 13) (.const (.int .u64 16))),oS 15 (.bin .add (tm 10) (tm 14)),oS 2 (.mv (tm 15))]) ( .ret))⟩
/-- sennet/post.part -/
def f144 : IFn := ⟨24,[.cell 4 (some 64)],.seq (.region 1 [oS 4 (.alloc 153 (reps 64 (.int .u8 0)))]) ( .seq (.region 1 [oS 6 (.mv (tm 0)),oS 7 (.mv (tm 1)),oS 8 (.sln (tm 7)),oS 9 (.conv .u8 (tm 8)),oS 10 (.mv (tm
 1)),oS 11 (.sln (tm 10)),oS 12 (.bin .shr (tm 11) (.const (.int .u64 8))),oS 13 (.conv .u8 (tm 12)),oS 14 (.mv (tm 1)),oS 15 (.sln (tm 14)),oS 16 (.bin .shr (tm 15) (.const (.int .u64 16))),oS 17
 (.conv .u8 (tm 16)),oS 18 (.build (reps 64 (.int .u8 0)) [(0,1,(tm 6)),(1,1,(tm 9)),(2,1,(tm 13)),(3,1,(tm 17))]),oS 5 (.alloc 153 (reps 64 (.int .u8 0))),oN (.store 64 (tm 5) (tm 18))]) ( .seq
 (.region 0 [oS 19 (.aslc 64 1 (tm 5) (some (ci 4)) (some (ci 63)) none),oS 20 (.mv (tm 1)),oS 21 (.cpy 1 (tm 19) (tm 20))]) ( .seq (.region 0 [oS 22 (.idxA (some 64) 1 (tm 5) (ci 63)),oN (.store 1
 (tm 22) (.const (.int .u8 1)))]) ( .seq (.region 0 [oS 23 (.load (some 64) (tm 5)),oN (.store 64 (tm 4) (tm 23))]) ( .ret)))))⟩
/-- internal/stringslite.Cut -/
def f147 : IFn := ⟨23,[.tmp 4,.tmp 5,.tmp 6],.seq (.region 0 [oS 4 (.mv (.const (.string ⟨#[]⟩))),oS 5 (.mv (.const (.string ⟨#[]⟩))),oS 6 (.mv (.const (.bool false)))]) ( .seq (.seq (.region 0 [oS 8 (.mv (tm 0)),oS 9
 (.mv (tm 1)),oS 10 (.call (.func 170) [(tm 8),(tm 9)]),oS 7 (.mv (tm 10))]) ( .seq (.region 0 [oS 11 (.mv (tm 7)),oS 12 (.bin .geq (tm 11) (ci 0))]) ( .cond (tm 12) ( .seq (.draw 0 [⟨0,0,0,oS 13 (.mv
 (tm 0)),none⟩,⟨1,0,0,oS 14 (.mv (tm 7)),none⟩,⟨2,0,3,oS 15 (.sslc (tm 13) none (some (tm 14))),none⟩,⟨3,0,0,oS 16 (.mv (tm 0)),none⟩,⟨4,0,0,oS 17 (.mv (tm 7)),none⟩,⟨5,0,0,oS 18 (.mv (tm
 1)),none⟩,⟨6,0,32,oS 19 (.sln (tm 18)),none⟩,⟨7,0,112,oS 20 (.bin .add (tm 17) (tm 19)),none⟩,⟨8,0,248,oS 21 (.sslc (tm 16) (some (tm 20)) none),none⟩,⟨9,0,7,oS 4 (.mv (tm 15)),none⟩,⟨10,0,1023,oS 5
 (.mv (tm 21)),none⟩,⟨11,0,2047,oS 6 (.mv (.const (.bool true))),none⟩]) ( .ret)) ( .skip)))) ( .seq (.region 0 [oS 22 (.mv (tm 0)),oS 4 (.mv (tm 22)),oS 5 (.mv (.const (.string ⟨#[]⟩))),oS 6 (.mv
 (.const (.bool false)))]) ( .ret)))⟩
/-- sennet/post.reader$1 -/
def f150 : IFn := ⟨42,[.tmp 3],.seq (.region 0 [oS 3 (.mv (ci 0))]) ( .seq (.region 0 [oS 7 (.load none (tm 1)),oS 8 (.mv (tm 0)),oS 9 (.call (.func 151) [(tm 7),(tm 8)]),oS 4 (.mv (tm 9))]) ( .seq (.seq (.region 0 [oS
 10 (.mv (tm 4)),oS 11 (.bin .lss (tm 10) (ci 0))]) ( .cond (tm 11) ( .region 0 [oS 12 (.build [] []),oS 13 (.mkif 190 (tm 12)),oN (.panic (tm 13))]) ( .skip))) ( .seq (.region 0 [oS 15 (.load none
 (tm 1)),oS 16 (.mv (tm 4)),oS 17 (.sslc (tm 15) none (some (tm 16))),oS 18 (.call (.func 152) [(tm 17)]),oS 14 (.mv (tm 18)),oS 19 (.extr (tm 14) 0),oS 20 (.extr (tm 14) 1),oS 5 (.mv (tm 19)),oS 6
 (.mv (tm 20))]) ( .seq (.seq (.draw 0 [⟨0,0,0,oS 21 (.mv (tm 6)),none⟩,⟨1,0,1,oS 22 (.eqn .iface true (tm 21) (.const .nilIface)),none⟩,⟨2,0,3,oS 23 (.mv (tm 22)),none⟩,⟨3,0,7,oG 24 (.mv (tm 5)) 23
 false,none⟩,⟨4,0,15,oG 25 (.bin .lss (tm 24) (ci 0)) 23 false,none⟩,⟨5,0,31,oS 26 (.pick (tm 23) (.const (.bool true)) (tm 25)),none⟩,⟨6,0,63,oS 27 (.mv (tm 26)),none⟩,⟨7,0,127,oG 28 (.mv (tm 5)) 27
 false,none⟩,⟨9,0,127,oG 30 (.load none (tm 1)) 27 false,none⟩,⟨10,0,127,oG 31 (.mv (tm 4)) 27 false,none⟩,⟨11,0,1663,oG 32 (.sslc (tm 30) none (some (tm 31))) 27 false,none⟩,⟨8,0,255,oG 29 (.call
 (.func 125) [(tm 28)]) 27 false,none⟩,⟨12,0,4095,oG 33 (.bin .neq (tm 29) (tm 32)) 27 false,none⟩,⟨13,0,8191,oS 34 (.pick (tm 27) (.const (.bool true)) (tm 33)),none⟩]) ( .cond (tm 34) ( .region 0
 [oS 35 (.build [] []),oS 36 (.mkif 190 (tm 35)),oN (.panic (tm 36))]) ( .skip))) ( .seq (.region 0 [oS 37 (.load none (tm 1)),oS 38 (.mv (tm 4)),oS 39 (.bin .add (tm 38) (ci 1)),oS 40 (.sslc (tm 37)
 (some (tm 39)) none),oN (.store 1 (tm 1) (tm 40))]) ( .seq (.region 0 [oS 41 (.mv (tm 5)),oS 3 (.mv (tm 41))]) ( .ret)))))))⟩
/-- strings.IndexByte -/
def f151 : IFn := ⟨8,[.tmp 4],.seq (.region 0 [oS 4 (.mv (ci 0))]) ( .seq (.region 0 [oS 5 (.mv (tm 0)),oS 6 (.mv (tm 1)),oS 7 (.call (.func 173) [(tm 5),(tm 6)]),oS 4 (.mv (tm 7))]) ( .ret))⟩
/-- strconv.Atoi -/
def f152 : IFn := ⟨18,[.tmp 2,.tmp 3],.seq (.region 0 [oS 2 (.mv (ci 0)),oS 3 (.mv (.const .nilIface))]) ( .seq (.region 0 [oS 7 (.mv (tm 0)),oS 8 (.call (.func 174) [(tm 7)]),oS 6 (.mv (tm 8)),oS 9 (.extr (tm 6) 0),oS
 10 (.extr (tm 6) 1),oS 4 (.mv (tm 9)),oS 5 (.mv (tm 10))]) ( .seq (.seq (.region 0 [oS 11 (.mv (tm 5)),oS 12 (.eqn .iface true (tm 11) (.const .nilIface))]) ( .cond (tm 12) ( .seq (.region 0 [oS 13
 (.mv (tm 4)),oS 14 (.mv (tm 0)),oS 15 (.mv (tm 5)),oS 16 (.call (.func 175) [(.const (.string ⟨#[65,116,111,105]⟩)),(tm 14),(ci 0),(ci 0),(tm 15)]),oS 2 (.mv (tm 13)),oS 3 (.mv (tm 16))]) ( .ret)) (
 .skip))) ( .seq (.region 0 [oS 17 (.mv (tm 4)),oS 2 (.mv (tm 17)),oS 3 (.mv (.const .nilIface))]) ( .ret))))⟩
/-- sennet/post.reader$2 -/
def f153 : IFn := ⟨25,[.tmp 3],.seq (.region 0 [oS 3 (.mv (.const (.string ⟨#[]⟩)))]) ( .seq (.seq (.region 0 [oS 5 (.mv (tm 0)),oS 6 (.load none (tm 1)),oS 7 (.sln (tm 6)),oS 8 (.bin .geq (tm 5) (tm 7)),oS 9 (.mv (tm
 8)),oG 10 (.load none (tm 1)) 9 false,oG 11 (.mv (tm 0)) 9 false,oG 12 (.sidx (tm 10) (tm 11)) 9 false,oG 13 (.bin .neq (tm 12) (.const (.int .u8 10))) 9 false,oS 14 (.pick (tm 9) (.const (.bool
 true)) (tm 13))]) ( .cond (tm 14) ( .region 0 [oS 15 (.build [] []),oS 16 (.mkif 190 (tm 15)),oN (.panic (tm 16))]) ( .skip))) ( .seq (.region 0 [oS 17 (.load none (tm 1)),oS 18 (.mv (tm 0)),oS 19
 (.sslc (tm 17) none (some (tm 18))),oS 4 (.mv (tm 19))]) ( .seq (.region 0 [oS 20 (.load none (tm 1)),oS 21 (.mv (tm 0)),oS 22 (.bin .add (tm 21) (ci 1)),oS 23 (.sslc (tm 20) (some (tm 22)) none),oN
 (.store 1 (tm 1) (tm 23))]) ( .seq (.region 0 [oS 24 (.mv (tm 4)),oS 3 (.mv (tm 24))]) ( .ret)))))⟩
/-- sennet/post.reader$3 -/
def f154 : IFn := ⟨3,[.tmp 1],.seq (.region 0 [oS 1 (.mv (.const (.string ⟨#[]⟩)))]) ( .seq (.region 0 [oS 2 (.load none (tm 0)),oS 1 (.mv (tm 2))]) ( .ret))⟩
/-- slices.Clip[[]sennet/api.Note,sennet/api.Note] -/
def f155 : IFn := ⟨9,[.tmp 2],.seq (.region 0 [oS 2 (.mv (.const (.slice none 0 0)))]) ( .seq (.region 0 [oS 3 (.mv (tm 0)),oS 4 (.mv (tm 0)),oS 5 (.ln (tm 4)),oS 6 (.mv (tm 0)),oS 7 (.ln (tm 6)),oS 8 (.slc 104 4 (tm
 3) none (some (tm 5)) (some (tm 7))),oS 2 (.mv (tm 8))]) ( .ret))⟩
/-- cmp.isNaN[int] -/
def f156 : IFn := ⟨6,[.tmp 2],.seq (.region 0 [oS 2 (.mv (.const (.bool false)))]) ( .seq (.region 0 [oS 3 (.mv (tm 0)),oS 4 (.mv (tm 0)),oS 5 (.bin .neq (tm 3) (tm 4)),oS 2 (.mv (tm 5))]) ( .ret))⟩
/-- slices.IndexFunc[[]int,int] -/
def f157 : IFn := ⟨19,[.tmp 4],.seq (.region 0 [oS 4 (.mv (ci 0))]) ( .seq (.seq (.region 0 [oS 6 (.mv (tm 0)),oS 7 (.ln (tm 6)),oS 8 (.mv (ci 0))]) ( .block 0 ( .loop ( .seq (.region 0 [oS 9 (.bin .lss (tm 8) (tm
 7))]) ( .seq (.cond (tm 9) ( .skip) ( .exit 0)) ( .seq (.block 1 ( .seq (.region 0 [oS 10 (.mv (tm 8)),oS 5 (.mv (tm 10))]) ( .seq (.region 0 [oS 11 (.mv (tm 1)),oS 12 (.mv (tm 0)),oS 13 (.mv (tm
 5)),oS 14 (.idxA none 1 (tm 12) (tm 13)),oS 15 (.load none (tm 14)),oS 16 (.call (tm 11) [(tm 15)])]) ( .cond (tm 16) ( .seq (.region 0 [oS 17 (.mv (tm 5)),oS 4 (.mv (tm 17))]) ( .ret)) ( .skip)))))
 ( .region 0 [oS 18 (.bin .add (tm 8) (ci 1)),oS 8 (.mv (tm 18))]))))))) ( .seq (.region 0 [oS 4 (.mv (.const (.int .i64 (-1))))]) ( .ret)))⟩
/-- slices.IndexFunc[[]sennet/api.Note,sennet/api.Note] -/
def f158 : IFn := ⟨19,[.tmp 4],.seq (.region 0 [oS 4 (.mv (ci 0))]) ( .seq (.seq (.region 0 [oS 6 (.mv (tm 0)),oS 7 (.ln (tm 6)),oS 8 (.mv (ci 0))]) ( .block 0 ( .loop ( .seq (.region 0 [oS 9 (.bin .lss (tm 8) (tm
 7))]) ( .seq (.cond (tm 9) ( .skip) ( .exit 0)) ( .seq (.block 1 ( .seq (.region 0 [oS 10 (.mv (tm 8)),oS 5 (.mv (tm 10))]) ( .seq (.region 0 [oS 11 (.mv (tm 1)),oS 12 (.mv (tm 0)),oS 13 (.mv (tm
 5)),oS 14 (.idxA none 4 (tm 12) (tm 13)),oS 15 (.load (some 4) (tm 14)),oS 16 (.call (tm 11) [(tm 15)])]) ( .cond (tm 16) ( .seq (.region 0 [oS 17 (.mv (tm 5)),oS 4 (.mv (tm 17))]) ( .ret)) (
 .skip))))) ( .region 0 [oS 18 (.bin .add (tm 8) (ci 1)),oS 8 (.mv (tm 18))]))))))) ( .seq (.region 0 [oS 4 (.mv (.const (.int .i64 (-1))))]) ( .ret)))⟩
end Go.Gx.B

/-
  The functions of this seat: the table.
-/
namespace Go.Gx.B
open Go.Gx
def taba : Nat → Option IFn
  | 7 => some f7
  | 16 => some f16
  | 17 => some f17
  | 18 => some f18
  | 19 => some f19
  | 20 => some f20
  | 22 => some f22
  | 23 => some f23
  | 25 => some f25
  | 39 => some f39
  | 40 => some f40
  | 41 => some f41
  | 60 => some f60
  | 62 => some f62
  | 63 => some f63
  | _ => none
def tabb : Nat → Option IFn
  | 64 => some f64
  | 66 => some f66
  | 68 => some f68
  | 74 => some f74
  | 75 => some f75
  | 76 => some f76
  | 77 => some f77
  | 78 => some f78
  | 79 => some f79
  | 80 => some f80
  | 81 => some f81
  | 82 => some f82
  | 83 => some f83
  | 88 => some f88
  | 89 => some f89
  | 95 => some f95
  | 100 => some f100
  | 101 => some f101
  | 110 => some f110
  | 112 => some f112
  | _ => none
def tabc : Nat → Option IFn
  | 113 => some f113
  | 114 => some f114
  | 115 => some f115
  | 119 => some f119
  | 121 => some f121
  | 123 => some f123
  | 124 => some f124
  | 125 => some f125
  | 126 => some f126
  | 127 => some f127
  | 128 => some f128
  | 129 => some f129
  | 130 => some f130
  | 131 => some f131
  | 132 => some f132
  | 133 => some f133
  | 134 => some f134
  | 135 => some f135
  | 136 => some f136
  | 137 => some f137
  | 138 => some f138
  | 142 => some f142
  | 143 => some f143
  | 144 => some f144
  | 147 => some f147
  | 150 => some f150
  | 151 => some f151
  | 152 => some f152
  | 153 => some f153
  | 154 => some f154
  | 155 => some f155
  | 156 => some f156
  | 157 => some f157
  | 158 => some f158
  | _ => none
def orT (a b : Nat → Option IFn) : Nat → Option IFn := fun k => match a k with
  | some f => some f
  | none => b k
def tab : Nat → Option IFn := orT taba (orT tabb tabc)
end Go.Gx.B

/-
  Functions of the library as steps of their own: numerals, words, strings.Builder, the sort of notes.
-/
namespace Go.Gx.B
open Go.Gx Go.Lib
set_option linter.all false
/-- digits, as the kernel can write them -/
def decK : Nat → Nat → List UInt8
  | 0, u => [UInt8.ofNat (48 + u)]
  | f + 1, u => if u < 10 then [UInt8.ofNat (48 + u)] else decK f (u / 10) ++ [UInt8.ofNat (48 + u % 10)]
theorem decK_eq : ∀ (f u : Nat), u < 10 ^ (f + 1) → decK f u = decDigits u
  | 0, u, h => by
    rw [decDigits, dif_pos (by simpa using h)]; rfl
  | f + 1, u, h => by
    rw [decDigits]
    unfold decK
    by_cases hu : u < 10
    · rw [if_pos hu, dif_pos hu]
    · rw [if_neg hu, dif_neg hu, decK_eq f (u / 10) (by rw [Nat.pow_succ] at h; omega)]
def itoaK (n : Int) : List UInt8 := if n < 0 then 45 :: decK 19 n.natAbs else decK 19 n.toNat
theorem itoaK_eq {n : Int} (h0 : -9223372036854775808 ≤ n) (h1 : n ≤ 9223372036854775807) : itoaK n = itoa n := by
  unfold itoaK itoa
  rw [decK_eq 19 _ (by omega), decK_eq 19 _ (by omega)]
def itoaF : List Value → Option Value
  | [.int .i64 n] => if -9223372036854775808 ≤ n ∧ n ≤ 9223372036854775807 then some (.string ⟨(itoaK n).toArray⟩) else none
  | _ => none
def prefF : List Value → Option Value
  | [.string s, .string p] => some (.tuple #[.string ⟨(trimPrefix s.data.toList p.data.toList).toArray⟩, .bool (hasPrefix s.data.toList p.data.toList)])
  | _ => none
/-- the first place of a byte, counted -/
def idxA : List UInt8 → UInt8 → Nat → Int
  | [], _, _ => -1
  | b :: l, c, n => if b == c then (n : Int) else idxA l c (n + 1)
theorem idxA_eq : ∀ (l : List UInt8) (c : UInt8) (n : Nat), idxA l c n = if indexByte l c = -1 then -1 else indexByte l c + n
  | [], c, n => rfl
  | b :: l, c, n => by
    unfold idxA indexByte
    by_cases h : (b == c) = true
    · rw [if_pos h, if_pos h]; simp
    · rw [if_neg h, if_neg h, idxA_eq l c (n + 1)]
      have hg := indexByte_ge l c
      by_cases h1 : indexByte l c = -1
      · simp [h1]
      · rw [if_neg h1]
        simp only [beq_iff_eq]
        rw [if_neg h1, if_neg (by omega)]
        omega
theorem idxA_zero (l : List UInt8) (c : UInt8) : idxA l c 0 = indexByte l c := by
  rw [idxA_eq]
  split
  · rename_i h; exact h.symm
  · omega
def byteF : List Value → Option Value
  | [.string s, .int .u8 c] => some (.int .i64 (idxA s.data.toList c.toNat.toUInt8 0))
  | _ => none
def oneF : List Value → Option Value
  | [.string s, .string ⟨⟨[c]⟩⟩] => some (.int .i64 (idxA s.data.toList c 0))
  | _ => none
def atoiF (s : ByteArray) : Option (Int × Bool) := if s.size ≤ 281474976710656 then match atoiAll s.data.toList with
    | .ok v => some (v, true)
    | NumEnd.syntax => some (0, false)
    | .range => some (atoiSat s.data.toList, false)
  else none
/-- strconv.Itoa -/
def itoaX := pureX 125 itoaF
/-- strings.CutPrefix -/
def prefX := pureX 128 prefF
/-- strings.IndexByte -/
def byteX := pureX 151 byteF
/-- stringslite.Index -/
def oneX := pureX 170 oneF
/-- strconv.Atoi -/
def atoiX := numX 152 249 atoiF
/-- copyCheck -/
def cpyX := copyX 159 203
/-- String -/
def bstX := strX 139 203 5
/-- slices.SortFunc at notes -/
def notX : Nat → List Value → AS → Option (Value × AS) := fun k args S => if k = 118 then nsortV 119 104 args S else none
def libX : Nat → List Value → AS → Option (Value × AS) := extOr itoaX (extOr prefX (extOr byteX (extOr oneX (extOr atoiX (extOr cpyX (extOr bstX notX))))))
end Go.Gx.B
