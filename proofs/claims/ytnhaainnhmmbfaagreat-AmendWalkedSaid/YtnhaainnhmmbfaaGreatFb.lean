/-
  Functions of this seat, as the abstract machine runs them (printed by a program of mine), part 2.
-/
import Derived.Test.YtnhaainnhmmbfaaGreatGe
set_option linter.all false
set_option linter.deprecated false
namespace Go.Gx.Z
open Go.Gx
def f54 : IFn:=⟨8,[],.seq (.region 0 [oS 4 (.mv (tm 0)),oS 5 (.un .not (tm 4))]) ( .cond (tm 5) ( .region 0 [oS 6 (.mv (tm 1)),oS 7 (.mkif 112 (tm 6)),oN (.panic (tm 7))]) ( .skip))⟩
def f55 : IFn:=⟨39,[],.seq (.region 1 [oS 3 (.box 38 (tm 1))]) ( .seq (.draw 0 [⟨0,0,0,oS 4 (.mv (tm 0)),none⟩,⟨1,0,1,oS 5 (.nilc (tm 4)),none⟩,⟨2,0,3,oS 6 (.fldA 3 (tm 5)),none⟩,⟨3,0,7,oS 7 (.load none (tm
 6)),none⟩,⟨4,0,0,oS 8 (.mv (tm 0)),none⟩,⟨5,0,16,oS 9 (.nilc (tm 8)),none⟩,⟨6,0,48,oS 10 (.fldA 2 (tm 9)),none⟩,⟨7,0,112,oS 11 (.load none (tm 10)),none⟩,⟨8,0,240,oS 12 (.ln (tm
 11)),none⟩,⟨9,0,511,oS 13 (.bin .lss (tm 7) (tm 12)),none⟩,⟨10,0,1023,oS 14 (.call (.func 54) [(tm 13),(ci 5)]),none⟩]) ( .seq (.region 0 [oS 15 (.mv (tm 0)),oS 16 (.nilc (tm 15)),oS 17 (.fldA 3 (tm
 16)),oS 18 (.load none (tm 17)),oS 19 (.bin .add (tm 18) (ci 1)),oS 20 (.nilc (tm 15)),oS 21 (.fldA 3 (tm 20)),oN (.store 1 (tm 21) (tm 19))]) ( .draw 0 [⟨0,0,0,oS 22 (.mv (tm 0)),none⟩,⟨1,0,0,oS 23
 (.mv (tm 0)),none⟩,⟨2,0,2,oS 24 (.nilc (tm 23)),none⟩,⟨3,0,6,oS 25 (.fldA 4 (tm 24)),none⟩,⟨4,0,14,oS 26 (.load none (tm 25)),none⟩,⟨5,0,0,oS 27 (.mv (tm 0)),none⟩,⟨6,0,32,oS 28 (.nilc (tm
 27)),none⟩,⟨7,0,96,oS 29 (.fldA 0 (tm 28)),none⟩,⟨8,0,224,oS 30 (.load (some 2) (tm 29)),none⟩,⟨9,0,0,oS 31 (.mv (tm 0)),none⟩,⟨10,0,512,oS 32 (.nilc (tm 31)),none⟩,⟨11,0,1536,oS 33 (.fldA 2 (tm
 32)),none⟩,⟨12,0,3584,oS 34 (.load none (tm 33)),none⟩,⟨13,0,8160,oS 35 (.build [(.int .i64 0),(.slice none 0 0),(.slice none 0 0),(.int .i64 0)] [(0,2,(tm 30)),(2,1,(tm 34)),(3,1,(.const (.int .i64
 (-1))))]),none⟩,⟨14,0,16382,oS 36 (.call (tm 26) [(tm 35)]),none⟩,⟨15,0,32767,oS 37 (.nilc (tm 22)),none⟩,⟨16,0,65535,oS 38 (.fldA 2 (tm 37)),none⟩,⟨17,0,131071,oN (.store 1 (tm 38) (tm
 36)),none⟩])))⟩
def f56 : IFn:=⟨91,[],.seq (.region 1 [oS 3 (.box 38 (tm 1))]) ( .seq (.draw 0 [⟨0,0,0,oS 12 (.fldA 1 (tm 3)),none⟩,⟨1,0,1,oS 13 (.load none (tm 12)),none⟩,⟨2,0,3,oS 14 (.bin .geq (tm 13) (ci 0)),none⟩,⟨3,0,7,oS 15
 (.mv (tm 14)),none⟩,⟨4,0,15,oG 16 (.fldA 1 (tm 3)) 15 true,none⟩,⟨5,0,31,oG 17 (.load none (tm 16)) 15 true,none⟩,⟨6,0,15,oG 18 (.mv (tm 0)) 15 true,none⟩,⟨7,0,79,oG 19 (.nilc (tm 18)) 15
 true,none⟩,⟨8,0,207,oG 20 (.fldA 0 (tm 19)) 15 true,none⟩,⟨9,0,463,oG 21 (.fldA 0 (tm 20)) 15 true,none⟩,⟨10,0,975,oG 22 (.load none (tm 21)) 15 true,none⟩,⟨11,0,2047,oG 23 (.bin .lss (tm 17) (tm
 22)) 15 true,none⟩,⟨12,0,4095,oS 24 (.pick (tm 15) (tm 23) (.const (.bool false))),none⟩,⟨13,0,8191,oS 25 (.call (.func 54) [(tm 24),(ci 1)]),none⟩]) ( .seq (.draw 0 [⟨0,0,0,oS 26 (.mv (tm
 0)),none⟩,⟨1,0,1,oS 27 (.nilc (tm 26)),none⟩,⟨2,0,3,oS 28 (.fldA 2 (tm 27)),none⟩,⟨3,0,7,oS 29 (.load none (tm 28)),none⟩,⟨4,0,0,oS 30 (.mv (tm 0)),none⟩,⟨5,0,16,oS 31 (.nilc (tm
 30)),none⟩,⟨6,0,48,oS 32 (.fldA 3 (tm 31)),none⟩,⟨7,0,112,oS 33 (.load none (tm 32)),none⟩,⟨8,0,255,oS 34 (.slc 3 1 (tm 29) none (some (tm 33)) none),none⟩,⟨9,0,0,oS 35 (.fldA 1 (tm
 3)),none⟩,⟨10,0,512,oS 36 (.load none (tm 35)),none⟩,⟨11,0,2047,oS 37 (.call (.func 47) [(tm 34),(tm 36)]),none⟩,⟨12,0,4095,oS 38 (.un .not (tm 37)),none⟩,⟨13,0,8191,oS 39 (.call (.func 54) [(tm
 38),(ci 70)]),none⟩]) ( .seq (.region 0 [oS 4 (.mv (.const (.slice none 0 0))),oS 5 (.mv (.const (.slice none 0 0)))]) ( .seq (.seq (.region 0 [oS 40 (.mv (tm 0)),oS 41 (.nilc (tm 40)),oS 42 (.fldA 0
 (tm 41)),oS 43 (.fldA 0 (tm 42)),oS 44 (.load none (tm 43)),oS 45 (.mv (ci 0))]) ( .block 0 ( .loop ( .seq (.region 0 [oS 46 (.bin .lss (tm 45) (tm 44))]) ( .seq (.cond (tm 46) ( .skip) ( .exit 0)) (
 .seq (.block 1 ( .seq (.region 0 [oS 47 (.mv (tm 45)),oS 6 (.mv (tm 47))]) ( .seq (.region 0 [oS 48 (.mv (tm 6)),oS 49 (.fldA 1 (tm 3)),oS 50 (.load none (tm 49)),oS 51 (.bin .neq (tm 48) (tm 50))])
 ( .cond (tm 51) ( .region 2 [oS 52 (.mv (tm 4)),oS 53 (.mv (tm 6)),oS 54 (.bslice 3 1 [(.int .i64 0)] 1 [(0,1,(tm 53))]),oS 55 (.app 3 1 8 [(.int .i64 0)] (tm 52) (tm 54)),oS 4 (.mv (tm 55))]) (
 .skip))))) ( .region 0 [oS 56 (.bin .add (tm 45) (ci 1)),oS 45 (.mv (tm 56))]))))))) ( .seq (.seq (.region 0 [oS 57 (.mv (tm 0)),oS 58 (.nilc (tm 57)),oS 59 (.fldA 2 (tm 58)),oS 60 (.load none (tm
 59)),oS 61 (.ln (tm 60)),oS 62 (.mv (ci 0))]) ( .block 2 ( .loop ( .seq (.region 0 [oS 63 (.bin .lss (tm 62) (tm 61))]) ( .seq (.cond (tm 63) ( .skip) ( .exit 2)) ( .seq (.block 3 ( .seq (.region 0
 [oS 64 (.idxA none 1 (tm 60) (tm 62)),oS 65 (.load none (tm 64)),oS 8 (.mv (tm 65))]) ( .seq (.region 0 [oS 66 (.mv (tm 4)),oS 67 (.mv (tm 8)),oS 68 (.call (.func 48) [(tm 66),(tm 67)]),oS 9 (.mv (tm
 68))]) ( .seq (.region 0 [oS 69 (.mv (tm 9)),oS 70 (.bin .geq (tm 69) (ci 0))]) ( .cond (tm 70) ( .region 2 [oS 71 (.mv (tm 5)),oS 72 (.mv (tm 9)),oS 73 (.bslice 3 1 [(.int .i64 0)] 1 [(0,1,(tm
 72))]),oS 74 (.app 3 1 8 [(.int .i64 0)] (tm 71) (tm 73)),oS 5 (.mv (tm 74))]) ( .skip)))))) ( .region 0 [oS 75 (.bin .add (tm 62) (ci 1)),oS 62 (.mv (tm 75))]))))))) ( .seq (.region 1 [oS 77 (.mv
 (tm 0)),oS 78 (.nilc (tm 77)),oS 79 (.fldA 0 (tm 78)),oS 80 (.load (some 2) (tm 79)),oS 81 (.mv (tm 4)),oS 82 (.call (.func 81) [(tm 80),(tm 81)]),oS 76 (.mv (tm 82)),oS 83 (.extr (tm 76) 0),oS 84
 (.extr (tm 76) 1),oS 10 (.alloc 24 [(.int .i64 0),(.slice none 0 0)]),oN (.store 2 (tm 10) (tm 83)),oS 11 (.mv (tm 84))]) ( .seq (.region 0 [oS 85 (.mv (tm 11)),oS 86 (.call (.func 52) [(tm 85)])]) (
 .region 0 [oS 87 (.mv (tm 0)),oS 88 (.load (some 2) (tm 10)),oS 89 (.mv (tm 5)),oS 90 (.call (.func 82) [(tm 87),(tm 88),(tm 89)])]))))))))⟩
def f57 : IFn:=⟨7,[],.seq (.region 1 [oS 3 (.box 38 (tm 1))]) ( .region 0 [oS 4 (.mv (tm 0)),oS 5 (.load (some 4) (tm 3)),oS 6 (.call (.func 83) [(tm 4),(tm 5),(ci 1)])])⟩
def f58 : IFn:=⟨7,[],.seq (.region 1 [oS 3 (.box 38 (tm 1))]) ( .region 0 [oS 4 (.mv (tm 0)),oS 5 (.load (some 4) (tm 3)),oS 6 (.call (.func 83) [(tm 4),(tm 5),(ci 0)])])⟩
def f59 : IFn:=⟨100,[.tmp 2],.seq (.region 1 [oS 1 (.box 24 (tm 0)),oS 2 (.mv (ci 0))]) ( .seq (.seq (.region 0 [oS 6 (.fldA 0 (tm 1)),oS 7 (.load none (tm 6)),oS 8 (.bin .gtr (tm 7) (ci 24))]) ( .cond (tm 8) ( .seq
 (.region 0 [oS 2 (.mv (ci 2))]) ( .ret)) ( .skip))) ( .seq (.seq (.region 0 [oS 9 (.fldA 0 (tm 1)),oS 10 (.load none (tm 9)),oS 11 (.bin .lss (tm 10) (ci 0))]) ( .cond (tm 11) ( .seq (.region 0 [oS 2
 (.mv (ci 1))]) ( .ret)) ( .skip))) ( .seq (.seq (.region 0 [oS 3 (.mv (ci 0))]) ( .block 0 ( .loop ( .seq (.seq (.region 0 [oS 12 (.mv (tm 3)),oS 13 (.fldA 1 (tm 1)),oS 14 (.load none (tm 13)),oS 15
 (.ln (tm 14)),oS 16 (.bin .lss (tm 12) (tm 15))]) ( .cond (tm 16) ( .skip) ( .exit 0))) ( .seq (.block 1 ( .seq (.region 1 [oS 19 (.fldA 1 (tm 1)),oS 20 (.load none (tm 19)),oS 21 (.mv (tm 3)),oS 22
 (.idxA none 4 (tm 20) (tm 21)),oS 23 (.load (some 4) (tm 22)),oS 4 (.alloc 86 [(.int .i64 0),(.int .i64 0),(.int .i64 0),(.int .i64 0)]),oN (.store 4 (tm 4) (tm 23))]) ( .seq (.seq (.region 0 [oS 24
 (.fldA 0 (tm 4)),oS 25 (.load none (tm 24)),oS 26 (.bin .lss (tm 25) (ci 0)),oS 27 (.mv (tm 26)),oG 28 (.fldA 0 (tm 4)) 27 false,oG 29 (.load none (tm 28)) 27 false,oG 30 (.fldA 0 (tm 1)) 27 false,oG
 31 (.load none (tm 30)) 27 false,oG 32 (.bin .geq (tm 29) (tm 31)) 27 false,oS 33 (.pick (tm 27) (.const (.bool true)) (tm 32)),oS 34 (.mv (tm 33)),oG 35 (.fldA 1 (tm 4)) 34 false,oG 36 (.load none
 (tm 35)) 34 false,oG 37 (.bin .lss (tm 36) (ci 0)) 34 false,oS 38 (.pick (tm 34) (.const (.bool true)) (tm 37)),oS 39 (.mv (tm 38)),oG 40 (.fldA 1 (tm 4)) 39 false,oG 41 (.load none (tm 40)) 39
 false,oG 42 (.fldA 0 (tm 1)) 39 false,oG 43 (.load none (tm 42)) 39 false,oG 44 (.bin .geq (tm 41) (tm 43)) 39 false,oS 45 (.pick (tm 39) (.const (.bool true)) (tm 44)),oS 46 (.mv (tm 45)),oG 47
 (.fldA 0 (tm 4)) 46 false,oG 48 (.load none (tm 47)) 46 false,oG 49 (.fldA 1 (tm 4)) 46 false,oG 50 (.load none (tm 49)) 46 false,oG 51 (.bin .eql (tm 48) (tm 50)) 46 false,oS 52 (.pick (tm 46)
 (.const (.bool true)) (tm 51)),oS 53 (.mv (tm 52)),oG 54 (.fldA 2 (tm 4)) 53 false,oG 55 (.load none (tm 54)) 53 false,oG 56 (.bin .lss (tm 55) (ci 0)) 53 false,oS 57 (.pick (tm 53) (.const (.bool
 true)) (tm 56)),oS 58 (.mv (tm 57)),oG 59 (.fldA 2 (tm 4)) 58 false,oG 60 (.load none (tm 59)) 58 false,oG 61 (.bin .gtr (tm 60) (ci 23)) 58 false,oS 62 (.pick (tm 58) (.const (.bool true)) (tm
 61)),oS 63 (.mv (tm 62)),oG 64 (.fldA 3 (tm 4)) 63 false,oG 65 (.load none (tm 64)) 63 false,oG 66 (.bin .lss (tm 65) (ci 1)) 63 false,oS 67 (.pick (tm 63) (.const (.bool true)) (tm 66)),oS 68 (.mv
 (tm 67)),oG 69 (.fldA 3 (tm 4)) 68 false,oG 70 (.load none (tm 69)) 68 false,oG 71 (.bin .gtr (tm 70) (ci 1000)) 68 false,oS 72 (.pick (tm 68) (.const (.bool true)) (tm 71))]) ( .cond (tm 72) ( .seq
 (.region 0 [oS 2 (.mv (ci 1))]) ( .ret)) ( .skip))) ( .seq (.region 0 [oS 73 (.mv (tm 3)),oS 74 (.bin .gtr (tm 73) (ci 0))]) ( .cond (tm 74) ( .seq (.region 1 [oS 75 (.fldA 1 (tm 1)),oS 76 (.load
 none (tm 75)),oS 77 (.mv (tm 3)),oS 78 (.bin .sub (tm 77) (ci 1)),oS 79 (.idxA none 4 (tm 76) (tm 78)),oS 80 (.load (some 4) (tm 79)),oS 5 (.alloc 86 [(.int .i64 0),(.int .i64 0),(.int .i64 0),(.int
 .i64 0)]),oN (.store 4 (tm 5) (tm 80))]) ( .seq (.region 0 [oS 81 (.fldA 0 (tm 5)),oS 82 (.load none (tm 81)),oS 83 (.fldA 0 (tm 4)),oS 84 (.load none (tm 83)),oS 85 (.bin .gtr (tm 82) (tm 84)),oS 86
 (.mv (tm 85)),oG 87 (.fldA 0 (tm 5)) 86 false,oG 88 (.load none (tm 87)) 86 false,oG 89 (.fldA 0 (tm 4)) 86 false,oG 90 (.load none (tm 89)) 86 false,oG 91 (.bin .eql (tm 88) (tm 90)) 86 false,oG 92
 (.mv (tm 91)) 86 false,oG 93 (.fldA 1 (tm 5)) 92 true,oG 94 (.load none (tm 93)) 92 true,oG 95 (.fldA 1 (tm 4)) 92 true,oG 96 (.load none (tm 95)) 92 true,oG 97 (.bin .geq (tm 94) (tm 96)) 92 true,oG
 98 (.pick (tm 92) (tm 97) (.const (.bool false))) 86 false,oS 99 (.pick (tm 86) (.const (.bool true)) (tm 98))]) ( .cond (tm 99) ( .seq (.region 0 [oS 2 (.mv (ci 1))]) ( .ret)) ( .skip)))) (
 .skip)))))) ( .region 0 [oS 17 (.mv (tm 3)),oS 18 (.bin .add (tm 17) (ci 1)),oS 3 (.mv (tm 18))])))))) ( .seq (.region 0 [oS 2 (.mv (ci 0))]) ( .ret)))))⟩
def f60 : IFn:=⟨21,[.tmp 4],.seq (.region 0 [oS 4 (.mv (.const (.bool false)))]) ( .seq (.seq (.region 0 [oS 7 (.mv (tm 0)),oS 8 (.ln (tm 7)),oS 9 (.mv (tm 1)),oS 10 (.bin .neq (tm 8) (tm 9))]) ( .cond (tm 10) (
 .seq (.region 0 [oS 4 (.mv (.const (.bool false)))]) ( .ret)) ( .skip))) ( .seq (.seq (.region 0 [oS 5 (.mv (ci 0))]) ( .block 0 ( .loop ( .seq (.seq (.region 0 [oS 11 (.mv (tm 5)),oS 12 (.mv (tm
 1)),oS 13 (.bin .lss (tm 11) (tm 12))]) ( .cond (tm 13) ( .skip) ( .exit 0))) ( .seq (.block 1 ( .seq (.region 0 [oS 16 (.mv (tm 0)),oS 17 (.mv (tm 5)),oS 18 (.call (.func 61) [(tm 16),(tm 17)]),oS 6
 (.mv (tm 18))]) ( .seq (.region 0 [oS 19 (.mv (tm 6)),oS 20 (.un .not (tm 19))]) ( .cond (tm 20) ( .seq (.region 0 [oS 4 (.mv (.const (.bool false)))]) ( .ret)) ( .skip))))) ( .region 0 [oS 14 (.mv
 (tm 5)),oS 15 (.bin .add (tm 14) (ci 1)),oS 5 (.mv (tm 15))])))))) ( .seq (.region 0 [oS 4 (.mv (.const (.bool true)))]) ( .ret))))⟩
def f61 : IFn:=⟨18,[.tmp 4],.seq (.region 0 [oS 4 (.mv (.const (.bool false)))]) ( .seq (.seq (.region 0 [oS 5 (.mv (ci 0))]) ( .block 0 ( .loop ( .seq (.seq (.region 0 [oS 6 (.mv (tm 5)),oS 7 (.mv (tm 0)),oS 8 (.ln
 (tm 7)),oS 9 (.bin .lss (tm 6) (tm 8))]) ( .cond (tm 9) ( .skip) ( .exit 0))) ( .seq (.block 1 ( .seq (.region 0 [oS 12 (.mv (tm 0)),oS 13 (.mv (tm 5)),oS 14 (.idxA none 1 (tm 12) (tm 13)),oS 15
 (.load none (tm 14)),oS 16 (.mv (tm 1)),oS 17 (.bin .eql (tm 15) (tm 16))]) ( .cond (tm 17) ( .seq (.region 0 [oS 4 (.mv (.const (.bool true)))]) ( .ret)) ( .skip)))) ( .region 0 [oS 10 (.mv (tm
 5)),oS 11 (.bin .add (tm 10) (ci 1)),oS 5 (.mv (tm 11))])))))) ( .seq (.region 0 [oS 4 (.mv (.const (.bool false)))]) ( .ret)))⟩
def f62 : IFn:=⟨91,[.cell 4 (some 2),.tmp 5],.seq (.region 2 [oS 2 (.box 24 (tm 0)),oS 4 (.alloc 24 [(.int .i64 0),(.slice none 0 0)]),oS 5 (.mv (ci 0))]) ( .seq (.region 0 [oS 14 (.load (some 2) (tm 2)),oS 15
 (.call (.func 59) [(tm 14)]),oS 6 (.mv (tm 15))]) ( .seq (.seq (.region 0 [oS 16 (.mv (tm 6)),oS 17 (.bin .neq (tm 16) (ci 0))]) ( .cond (tm 17) ( .seq (.region 0 [oS 18 (.build [(.int .i64
 0),(.slice none 0 0)] []),oS 19 (.mv (tm 6)),oN (.store 2 (tm 4) (tm 18)),oS 5 (.mv (tm 19))]) ( .ret)) ( .skip))) ( .seq (.seq (.region 0 [oS 7 (.mv (ci 0))]) ( .block 0 ( .loop ( .seq (.seq
 (.region 0 [oS 20 (.mv (tm 7)),oS 21 (.mv (tm 1)),oS 22 (.ln (tm 21)),oS 23 (.bin .lss (tm 20) (tm 22))]) ( .cond (tm 23) ( .skip) ( .exit 0))) ( .seq (.block 1 ( .seq (.seq (.draw 0 [⟨0,0,0,oS 26
 (.load (some 2) (tm 2)),none⟩,⟨1,0,0,oS 27 (.mv (tm 1)),none⟩,⟨2,0,0,oS 28 (.mv (tm 7)),none⟩,⟨3,0,6,oS 29 (.idxA none 1 (tm 27) (tm 28)),none⟩,⟨4,0,14,oS 30 (.load none (tm 29)),none⟩,⟨5,0,31,oS 31
 (.call (.func 84) [(tm 26),(tm 30)]),none⟩,⟨6,0,63,oS 32 (.un .not (tm 31)),none⟩]) ( .cond (tm 32) ( .seq (.region 0 [oS 33 (.build [(.int .i64 0),(.slice none 0 0)] []),oN (.store 2 (tm 4) (tm
 33)),oS 5 (.mv (ci 1))]) ( .ret)) ( .skip))) ( .seq (.region 0 [oS 8 (.mv (ci 0))]) ( .block 2 ( .loop ( .seq (.seq (.region 0 [oS 34 (.mv (tm 8)),oS 35 (.mv (tm 7)),oS 36 (.bin .lss (tm 34) (tm
 35))]) ( .cond (tm 36) ( .skip) ( .exit 2))) ( .seq (.block 3 ( .seq (.draw 0 [⟨0,0,0,oS 39 (.mv (tm 1)),none⟩,⟨1,0,0,oS 40 (.mv (tm 8)),none⟩,⟨2,0,3,oS 41 (.idxA none 1 (tm 39) (tm
 40)),none⟩,⟨3,0,7,oS 42 (.load none (tm 41)),none⟩,⟨4,0,0,oS 43 (.mv (tm 1)),none⟩,⟨5,0,0,oS 44 (.mv (tm 7)),none⟩,⟨6,0,48,oS 45 (.idxA none 1 (tm 43) (tm 44)),none⟩,⟨7,0,112,oS 46 (.load none (tm
 45)),none⟩,⟨8,0,255,oS 47 (.bin .eql (tm 42) (tm 46)),none⟩]) ( .cond (tm 47) ( .seq (.region 0 [oS 48 (.build [(.int .i64 0),(.slice none 0 0)] []),oN (.store 2 (tm 4) (tm 48)),oS 5 (.mv (ci 6))]) (
 .ret)) ( .skip)))) ( .region 0 [oS 37 (.mv (tm 8)),oS 38 (.bin .add (tm 37) (ci 1)),oS 8 (.mv (tm 38))])))))))) ( .region 0 [oS 24 (.mv (tm 7)),oS 25 (.bin .add (tm 24) (ci 1)),oS 7 (.mv (tm
 25))])))))) ( .seq (.region 1 [oS 49 (.mv (tm 1)),oS 50 (.ln (tm 49)),oS 51 (.build [(.int .i64 0),(.slice none 0 0)] [(0,1,(tm 50))]),oS 9 (.alloc 24 [(.int .i64 0),(.slice none 0 0)]),oN (.store 2
 (tm 9) (tm 51))]) ( .seq (.seq (.region 0 [oS 10 (.mv (ci 0))]) ( .block 4 ( .loop ( .seq (.seq (.region 0 [oS 52 (.mv (tm 10)),oS 53 (.mv (tm 1)),oS 54 (.ln (tm 53)),oS 55 (.bin .lss (tm 52) (tm
 54))]) ( .cond (tm 55) ( .skip) ( .exit 4))) ( .seq (.block 5 ( .seq (.region 0 [oS 11 (.mv (ci 0))]) ( .block 6 ( .loop ( .seq (.seq (.region 0 [oS 58 (.mv (tm 11)),oS 59 (.mv (tm 1)),oS 60 (.ln (tm
 59)),oS 61 (.bin .lss (tm 58) (tm 60))]) ( .cond (tm 61) ( .skip) ( .exit 6))) ( .seq (.block 7 ( .seq (.draw 1 [⟨0,0,0,oS 65 (.load (some 2) (tm 2)),none⟩,⟨1,0,0,oS 66 (.mv (tm 1)),none⟩,⟨2,0,0,oS
 67 (.mv (tm 10)),none⟩,⟨3,0,6,oS 68 (.idxA none 1 (tm 66) (tm 67)),none⟩,⟨4,0,14,oS 69 (.load none (tm 68)),none⟩,⟨5,0,0,oS 70 (.mv (tm 1)),none⟩,⟨6,0,0,oS 71 (.mv (tm 11)),none⟩,⟨7,0,96,oS 72 (.idxA
 none 1 (tm 70) (tm 71)),none⟩,⟨8,0,224,oS 73 (.load none (tm 72)),none⟩,⟨13,0,0,oS 12 (.alloc 86 [(.int .i64 0),(.int .i64 0),(.int .i64 0),(.int .i64 0)]),none⟩,⟨9,0,511,oS 74 (.call (.func 85) [(tm
 65),(tm 69),(tm 73)]),none⟩,⟨10,0,1023,oS 64 (.mv (tm 74)),none⟩,⟨11,0,2047,oS 75 (.extr (tm 64) 0),none⟩,⟨12,0,2047,oS 76 (.extr (tm 64) 1),none⟩,⟨14,1,12287,oN (.store 4 (tm 12) (tm
 75)),none⟩,⟨15,1,32767,oS 13 (.mv (tm 76)),none⟩]) ( .seq (.region 0 [oS 77 (.mv (tm 13))]) ( .cond (tm 77) ( .region 2 [oS 78 (.fldA 1 (tm 9)),oS 79 (.load none (tm 78)),oS 80 (.mv (tm 10)),oS 81
 (.mv (tm 11)),oS 82 (.fldA 2 (tm 12)),oS 83 (.load none (tm 82)),oS 84 (.fldA 3 (tm 12)),oS 85 (.load none (tm 84)),oS 86 (.build [(.int .i64 0),(.int .i64 0),(.int .i64 0),(.int .i64 0)] [(0,1,(tm
 80)),(1,1,(tm 81)),(2,1,(tm 83)),(3,1,(tm 85))]),oS 87 (.bslice 86 4 [(.int .i64 0),(.int .i64 0),(.int .i64 0),(.int .i64 0)] 1 [(0,4,(tm 86))]),oS 88 (.app 86 4 32 [(.int .i64 0),(.int .i64
 0),(.int .i64 0),(.int .i64 0)] (tm 79) (tm 87)),oS 89 (.fldA 1 (tm 9)),oN (.store 1 (tm 89) (tm 88))]) ( .skip))))) ( .region 0 [oS 62 (.mv (tm 11)),oS 63 (.bin .add (tm 62) (ci 1)),oS 11 (.mv (tm
 63))]))))))) ( .region 0 [oS 56 (.mv (tm 10)),oS 57 (.bin .add (tm 56) (ci 1)),oS 10 (.mv (tm 57))])))))) ( .seq (.region 0 [oS 90 (.load (some 2) (tm 9)),oN (.store 2 (tm 4) (tm 90)),oS 5 (.mv (ci
 0))]) ( .ret)))))))⟩
def f63 : IFn:=⟨20,[.tmp 4],.seq (.region 0 [oS 4 (.mv (.const (.slice none 0 0)))]) ( .seq (.region 0 [oS 5 (.mv (.const (.slice none 0 0)))]) ( .seq (.seq (.region 0 [oS 6 (.mv (ci 0))]) ( .block 0 ( .loop ( .seq
 (.seq (.region 0 [oS 7 (.mv (tm 6)),oS 8 (.mv (tm 0)),oS 9 (.bin .lss (tm 7) (tm 8))]) ( .cond (tm 9) ( .skip) ( .exit 0))) ( .seq (.block 1 ( .seq (.region 0 [oS 12 (.mv (tm 6)),oS 13 (.mv (tm
 1)),oS 14 (.bin .neq (tm 12) (tm 13))]) ( .cond (tm 14) ( .region 2 [oS 15 (.mv (tm 5)),oS 16 (.mv (tm 6)),oS 17 (.bslice 3 1 [(.int .i64 0)] 1 [(0,1,(tm 16))]),oS 18 (.app 3 1 8 [(.int .i64 0)] (tm
 15) (tm 17)),oS 5 (.mv (tm 18))]) ( .skip)))) ( .region 0 [oS 10 (.mv (tm 6)),oS 11 (.bin .add (tm 10) (ci 1)),oS 6 (.mv (tm 11))])))))) ( .seq (.region 0 [oS 19 (.mv (tm 5)),oS 4 (.mv (tm 19))]) (
 .ret))))⟩
def f64 : IFn:=⟨65,[.tmp 2],.seq (.region 1 [oS 1 (.box 41 (tm 0)),oS 2 (.mv (ci 0))]) ( .seq (.region 0 [oS 6 (.fldA 0 (tm 1)),oS 7 (.load (some 2) (tm 6)),oS 8 (.call (.func 59) [(tm 7)]),oS 3 (.mv (tm 8))]) (
 .seq (.seq (.region 0 [oS 9 (.mv (tm 3)),oS 10 (.bin .neq (tm 9) (ci 0))]) ( .cond (tm 10) ( .seq (.region 0 [oS 11 (.mv (tm 3)),oS 2 (.mv (tm 11))]) ( .ret)) ( .skip))) ( .seq (.seq (.region 0 [oS 4
 (.mv (ci 0))]) ( .block 0 ( .loop ( .seq (.seq (.region 0 [oS 12 (.mv (tm 4)),oS 13 (.fldA 2 (tm 1)),oS 14 (.load none (tm 13)),oS 15 (.ln (tm 14)),oS 16 (.bin .lss (tm 12) (tm 15))]) ( .cond (tm 16)
 ( .skip) ( .exit 0))) ( .seq (.block 1 ( .seq (.seq (.draw 0 [⟨0,0,0,oS 19 (.fldA 2 (tm 1)),none⟩,⟨1,0,1,oS 20 (.load none (tm 19)),none⟩,⟨2,0,0,oS 21 (.mv (tm 4)),none⟩,⟨3,0,7,oS 22 (.idxA none 1
 (tm 20) (tm 21)),none⟩,⟨4,0,15,oS 23 (.load none (tm 22)),none⟩,⟨5,0,31,oS 24 (.bin .lss (tm 23) (ci 0)),none⟩,⟨6,0,63,oS 25 (.mv (tm 24)),none⟩,⟨7,0,127,oG 26 (.fldA 2 (tm 1)) 25
 false,none⟩,⟨8,0,255,oG 27 (.load none (tm 26)) 25 false,none⟩,⟨9,0,127,oG 28 (.mv (tm 4)) 25 false,none⟩,⟨10,0,1023,oG 29 (.idxA none 1 (tm 27) (tm 28)) 25 false,none⟩,⟨11,0,2047,oG 30 (.load none
 (tm 29)) 25 false,none⟩,⟨12,0,127,oG 31 (.fldA 0 (tm 1)) 25 false,none⟩,⟨13,0,4223,oG 32 (.fldA 0 (tm 31)) 25 false,none⟩,⟨14,0,12415,oG 33 (.load none (tm 32)) 25 false,none⟩,⟨15,0,32767,oG 34 (.bin
 .geq (tm 30) (tm 33)) 25 false,none⟩,⟨16,0,65535,oS 35 (.pick (tm 25) (.const (.bool true)) (tm 34)),none⟩]) ( .cond (tm 35) ( .seq (.region 0 [oS 2 (.mv (ci 1))]) ( .ret)) ( .skip))) ( .seq (.draw 0
 [⟨0,0,0,oS 36 (.fldA 2 (tm 1)),none⟩,⟨1,0,1,oS 37 (.load none (tm 36)),none⟩,⟨2,0,0,oS 38 (.mv (tm 4)),none⟩,⟨3,0,7,oS 39 (.slc 3 1 (tm 37) none (some (tm 38)) none),none⟩,⟨4,0,0,oS 40 (.fldA 2 (tm
 1)),none⟩,⟨5,0,16,oS 41 (.load none (tm 40)),none⟩,⟨6,0,0,oS 42 (.mv (tm 4)),none⟩,⟨7,0,112,oS 43 (.idxA none 1 (tm 41) (tm 42)),none⟩,⟨8,0,240,oS 44 (.load none (tm 43)),none⟩,⟨9,0,511,oS 45 (.call
 (.func 61) [(tm 39),(tm 44)]),none⟩,⟨10,0,1023,oS 5 (.mv (tm 45)),none⟩]) ( .seq (.region 0 [oS 46 (.mv (tm 5))]) ( .cond (tm 46) ( .seq (.region 0 [oS 2 (.mv (ci 6))]) ( .ret)) ( .skip)))))) (
 .region 0 [oS 17 (.mv (tm 4)),oS 18 (.bin .add (tm 17) (ci 1)),oS 4 (.mv (tm 18))])))))) ( .seq (.seq (.region 0 [oS 47 (.fldA 3 (tm 1)),oS 48 (.load none (tm 47)),oS 49 (.bin .lss (tm 48) (ci 0)),oS
 50 (.mv (tm 49)),oG 51 (.fldA 3 (tm 1)) 50 false,oG 52 (.load none (tm 51)) 50 false,oG 53 (.fldA 2 (tm 1)) 50 false,oG 54 (.load none (tm 53)) 50 false,oG 55 (.ln (tm 54)) 50 false,oG 56 (.bin .gtr
 (tm 52) (tm 55)) 50 false,oS 57 (.pick (tm 50) (.const (.bool true)) (tm 56))]) ( .cond (tm 57) ( .seq (.region 0 [oS 2 (.mv (ci 1))]) ( .ret)) ( .skip))) ( .seq (.seq (.region 0 [oS 58 (.fldA 0 (tm
 1)),oS 59 (.fldA 0 (tm 58)),oS 60 (.load none (tm 59)),oS 61 (.fldA 3 (tm 1)),oS 62 (.load none (tm 61)),oS 63 (.bin .sub (tm 60) (tm 62)),oS 64 (.bin .gtr (tm 63) (ci 8))]) ( .cond (tm 64) ( .seq
 (.region 0 [oS 2 (.mv (ci 2))]) ( .ret)) ( .skip))) ( .seq (.region 0 [oS 2 (.mv (ci 0))]) ( .ret)))))))⟩
def f65 : IFn:=⟨15,[.tmp 2],.seq (.region 1 [oS 1 (.box 41 (tm 0)),oS 2 (.mv (.const (.pointer none)))]) ( .seq (.region 1 [oS 4 (.build [(.int .i64 0),(.int .i64 0),(.slice none 0 0)] []),oS 5 (.box 123 (tm 4)),oS
 3 (.mv (tm 5))]) ( .seq (.draw 0 [⟨0,0,0,oS 6 (.load (some 4) (tm 1)),none⟩,⟨1,0,0,oS 7 (.fldA 2 (tm 1)),none⟩,⟨2,0,2,oS 8 (.load none (tm 7)),none⟩,⟨3,0,0,oS 9 (.fldA 3 (tm 1)),none⟩,⟨4,0,8,oS 10
 (.load none (tm 9)),none⟩,⟨5,0,30,oS 11 (.slc 3 1 (tm 8) none (some (tm 10)) none),none⟩,⟨6,0,0,oS 12 (.mv (tm 3)),none⟩,⟨7,0,127,oS 13 (.call (.func 86) [(tm 6),(tm 11),(tm 12)]),none⟩]) ( .seq
 (.region 0 [oS 14 (.mv (tm 3)),oS 2 (.mv (tm 14))]) ( .ret))))⟩
def f67 : IFn:=⟨16,[.tmp 4,.tmp 5],.seq (.region 1 [oS 2 (.box 24 (tm 0)),oS 4 (.mv (ci 0)),oS 5 (.mv (ci 0))]) ( .seq (.seq (.region 0 [oS 7 (.load (some 2) (tm 2)),oS 8 (.mv (tm 1)),oS 9 (.call (.func 89) [(tm
 7),(tm 8)]),oS 6 (.mv (tm 9))]) ( .seq (.region 0 [oS 10 (.mv (tm 6)),oS 11 (.bin .neq (tm 10) (ci 0))]) ( .cond (tm 11) ( .seq (.region 0 [oS 12 (.mv (tm 6)),oS 4 (.mv (ci 0)),oS 5 (.mv (tm 12))]) (
 .ret)) ( .skip)))) ( .seq (.region 0 [oS 13 (.load (some 2) (tm 2)),oS 14 (.mv (tm 1)),oS 15 (.call (.func 90) [(tm 13),(tm 14)]),oS 4 (.mv (tm 15)),oS 5 (.mv (ci 0))]) ( .ret)))⟩
def f68 : IFn:=⟨26,[.tmp 4],.seq (.region 0 [oS 4 (.mv (ci 0))]) ( .seq (.region 0 [oS 5 (.mv (ci 0))]) ( .seq (.seq (.region 0 [oS 8 (.mv (tm 0)),oS 9 (.ln (tm 8)),oS 10 (.mv (ci 0))]) ( .block 0 ( .loop ( .seq
 (.region 0 [oS 11 (.bin .lss (tm 10) (tm 9))]) ( .seq (.cond (tm 11) ( .skip) ( .exit 0)) ( .seq (.block 1 ( .seq (.region 0 [oS 12 (.idxA none 1 (tm 8) (tm 10)),oS 13 (.load none (tm 12)),oS 7 (.mv
 (tm 13))]) ( .seq (.region 0 [oS 14 (.mv (tm 1)),oS 15 (.mv (tm 7)),oS 16 (.call (.func 47) [(tm 14),(tm 15)])]) ( .cond (tm 16) ( .region 0 [oS 17 (.mv (tm 5)),oS 18 (.bin .add (tm 17) (ci 1)),oS 5
 (.mv (tm 18))]) ( .skip))))) ( .region 0 [oS 19 (.bin .add (tm 10) (ci 1)),oS 10 (.mv (tm 19))]))))))) ( .seq (.region 0 [oS 20 (.mv (tm 5)),oS 21 (.mv (tm 0)),oS 22 (.mv (tm 1)),oS 23 (.call (.func
 50) [(tm 21),(tm 22)]),oS 24 (.ln (tm 23)),oS 25 (.bin .sub (tm 20) (tm 24)),oS 4 (.mv (tm 25))]) ( .ret))))⟩
def f69 : IFn:=⟨54,[.cell 4 (some 2)],.seq (.region 3 [oS 2 (.box 81 (tm 0)),oS 3 (.box 89 (tm 1)),oS 4 (.alloc 79 [(.int .i64 0),(.int .i64 0)])]) ( .seq (.seq (.draw 0 [⟨0,0,0,oS 11 (.fldA 0 (tm
 3)),none⟩,⟨1,0,1,oS 12 (.load none (tm 11)),none⟩,⟨2,0,0,oS 13 (.load none (tm 2)),none⟩,⟨3,0,4,oS 14 (.call (.func 40) [(tm 13)]),none⟩,⟨4,0,15,oS 15 (.bin .eql (tm 12) (tm 14)),none⟩]) ( .cond (tm
 15) ( .seq (.region 0 [oS 16 (.build [(.int .i64 0),(.int .i64 0)] []),oN (.store 2 (tm 4) (tm 16))]) ( .ret)) ( .skip))) ( .seq (.seq (.draw 1 [⟨0,0,0,oS 18 (.load none (tm 2)),none⟩,⟨1,0,1,oS 19
 (.nilc (tm 18)),none⟩,⟨2,0,3,oS 20 (.fldA 9 (tm 19)),none⟩,⟨3,0,7,oS 21 (.load none (tm 20)),none⟩,⟨4,0,0,oS 22 (.load (some 2) (tm 3)),none⟩,⟨5,0,31,oS 23 (.look [(.int .i64),(.int .i64)] true (.agg
 #[(.int .i64 0),(.int .i64 0)]) true (tm 21) (tm 22)),none⟩,⟨6,0,63,oS 17 (.mv (tm 23)),none⟩,⟨7,0,127,oS 24 (.extr (tm 17) 0),none⟩,⟨8,0,127,oS 25 (.extr (tm 17) 1),none⟩,⟨9,0,0,oS 5 (.alloc 79
 [(.int .i64 0),(.int .i64 0)]),none⟩,⟨10,1,767,oN (.store 2 (tm 5) (tm 24)),none⟩,⟨11,1,2047,oS 6 (.mv (tm 25)),none⟩]) ( .seq (.region 0 [oS 26 (.mv (tm 6))]) ( .cond (tm 26) ( .seq (.region 0 [oS
 27 (.load (some 2) (tm 5)),oN (.store 2 (tm 4) (tm 27))]) ( .ret)) ( .skip)))) ( .seq (.region 1 [oS 7 (.alloc 79 [(.int .i64 0),(.int .i64 0)])]) ( .seq (.region 1 [oS 8 (.alloc 4 [(.bool
 false)]),oN (.store 1 (tm 8) (.const (.bool false)))]) ( .seq (.seq (.region 0 [oS 28 (.load none (tm 2)),oS 29 (.load (some 2) (tm 3)),oS 30 (.call (.func 42) [(tm 28),(tm 29)])]) ( .block 0 (
 .rangeF (tm 30) [31] (.region 1 [oS 9 (.alloc 101 [(.int .i64 0),(.int .i64 0),(.int .i64 0),(.int .i64 0),(.int .i64 0)]),oN (.store 5 (tm 9) (tm 31))]) (.block 1 ( .seq (.draw 1 [⟨0,0,0,oS 32
 (.fldA 3 (tm 9)),none⟩,⟨1,0,1,oS 33 (.load (some 2) (tm 32)),none⟩,⟨2,0,0,oS 34 (.load none (tm 2)),none⟩,⟨3,0,0,oS 35 (.fldA 1 (tm 9)),none⟩,⟨4,0,8,oS 36 (.load (some 2) (tm 35)),none⟩,⟨7,0,0,oS 10
 (.alloc 79 [(.int .i64 0),(.int .i64 0)]),none⟩,⟨5,0,28,oS 37 (.call (.func 69) [(tm 34),(tm 36)]),none⟩,⟨6,0,63,oS 38 (.call (.func 43) [(tm 33),(tm 37)]),none⟩,⟨8,1,255,oN (.store 2 (tm 10) (tm
 38)),none⟩]) ( .seq (.region 0 [oS 39 (.load none (tm 8)),oS 40 (.un .not (tm 39)),oS 41 (.mv (tm 40)),oG 42 (.load (some 2) (tm 10)) 41 false,oG 43 (.load (some 2) (tm 7)) 41 false,oG 44 (.call
 (.func 41) [(tm 42),(tm 43)]) 41 false,oS 45 (.pick (tm 41) (.const (.bool true)) (tm 44))]) ( .cond (tm 45) ( .region 0 [oS 46 (.load (some 2) (tm 10)),oN (.store 2 (tm 7) (tm 46)),oN (.store 1 (tm
 8) (.const (.bool true)))]) ( .skip)))))))) ( .seq (.draw 0 [⟨0,0,0,oS 47 (.load none (tm 2)),none⟩,⟨1,0,1,oS 48 (.nilc (tm 47)),none⟩,⟨2,0,3,oS 49 (.fldA 9 (tm 48)),none⟩,⟨3,0,7,oS 50 (.load none
 (tm 49)),none⟩,⟨4,0,0,oS 51 (.load (some 2) (tm 3)),none⟩,⟨5,0,0,oS 52 (.load (some 2) (tm 7)),none⟩,⟨6,0,63,oN (.mset [(.int .i64),(.int .i64)] true (tm 50) (tm 51) (tm 52)),none⟩]) ( .seq (.region
 0 [oS 53 (.load (some 2) (tm 7)),oN (.store 2 (tm 4) (tm 53))]) ( .ret))))))))⟩
def f70 : IFn:=⟨35,[.tmp 4,.tmp 5,.tmp 6],.seq (.region 1 [oS 2 (.box 41 (tm 0)),oS 4 (.mv (ci 0)),oS 5 (.mv (ci 0)),oS 6 (.mv (ci 0))]) ( .seq (.region 0 [oS 10 (.load (some 4) (tm 2)),oS 11 (.call (.func 64) [(tm
 10)]),oS 7 (.mv (tm 11))]) ( .seq (.seq (.region 0 [oS 12 (.mv (tm 7)),oS 13 (.bin .neq (tm 12) (ci 0))]) ( .cond (tm 13) ( .seq (.region 0 [oS 14 (.mv (tm 7)),oS 4 (.mv (ci 0)),oS 5 (.mv (ci 0)),oS
 6 (.mv (tm 14))]) ( .ret)) ( .skip))) ( .seq (.region 0 [oS 15 (.mv (tm 1)),oS 16 (.fldA 0 (tm 2)),oS 17 (.fldA 0 (tm 16)),oS 18 (.load none (tm 17)),oS 19 (.call (.func 60) [(tm 15),(tm 18)]),oS 8
 (.mv (tm 19))]) ( .seq (.seq (.region 0 [oS 20 (.mv (tm 8)),oS 21 (.un .not (tm 20))]) ( .cond (tm 21) ( .seq (.region 0 [oS 4 (.mv (ci 0)),oS 5 (.mv (ci 0)),oS 6 (.mv (ci 1))]) ( .ret)) ( .skip))) (
 .seq (.region 0 [oS 22 (.load (some 4) (tm 2)),oS 23 (.mv (tm 1)),oS 24 (.call (.func 91) [(tm 22),(tm 23)]),oS 9 (.mv (tm 24))]) ( .seq (.seq (.region 0 [oS 25 (.mv (tm 9)),oS 26 (.un .not (tm
 25))]) ( .cond (tm 26) ( .seq (.region 0 [oS 4 (.mv (ci 0)),oS 5 (.mv (ci 0)),oS 6 (.mv (ci 70))]) ( .ret)) ( .skip))) ( .seq (.draw 0 [⟨0,0,0,oS 27 (.fldA 0 (tm 2)),none⟩,⟨1,0,1,oS 28 (.load (some
 2) (tm 27)),none⟩,⟨2,0,0,oS 29 (.mv (tm 1)),none⟩,⟨4,0,0,oS 31 (.fldA 2 (tm 2)),none⟩,⟨5,0,16,oS 32 (.load none (tm 31)),none⟩,⟨6,0,0,oS 33 (.mv (tm 1)),none⟩,⟨3,0,7,oS 30 (.call (.func 92) [(tm
 28),(tm 29)]),none⟩,⟨7,0,127,oS 34 (.call (.func 93) [(tm 32),(tm 33)]),none⟩,⟨8,0,255,oS 4 (.mv (tm 30)),none⟩,⟨9,0,511,oS 5 (.mv (tm 34)),none⟩,⟨10,0,1023,oS 6 (.mv (ci 0)),none⟩]) ( .ret))))))))⟩
def f71 : IFn:=⟨80,[],.seq (.region 0 [oS 11 (.load none (tm 1)),oS 12 (.nilc (tm 11)),oS 13 (.fldA 4 (tm 12)),oS 14 (.load none (tm 13)),oS 15 (.ln (tm 14)),oS 16 (.mv (ci 0))]) ( .block 0 ( .loop ( .seq (.region 0
 [oS 17 (.bin .lss (tm 16) (tm 15))]) ( .seq (.cond (tm 17) ( .skip) ( .exit 0)) ( .seq (.block 1 ( .seq (.region 0 [oS 18 (.mv (tm 16)),oS 19 (.idxA none 1 (tm 14) (tm 16)),oS 20 (.load none (tm
 19)),oS 4 (.mv (tm 18)),oS 5 (.mv (tm 20))]) ( .seq (.seq (.region 0 [oS 21 (.fldA 0 (tm 2)),oS 22 (.load none (tm 21)),oS 23 (.mv (tm 4)),oS 24 (.bin .shr (tm 22) (tm 23)),oS 25 (.bin .and (tm 24)
 (ci 1)),oS 26 (.bin .eql (tm 25) (ci 1))]) ( .cond (tm 26) ( .exit 1) ( .skip))) ( .seq (.region 0 [oS 27 (.load none (tm 1)),oS 28 (.mv (tm 4)),oS 29 (.fldA 0 (tm 2)),oS 30 (.load none (tm 29)),oS
 31 (.call (.func 72) [(tm 27),(tm 28),(tm 30)]),oS 6 (.mv (tm 31))]) ( .seq (.draw 1 [⟨0,0,0,oS 32 (.fldA 0 (tm 2)),none⟩,⟨1,0,1,oS 33 (.load none (tm 32)),none⟩,⟨2,0,0,oS 34 (.mv (tm
 4)),none⟩,⟨3,0,4,oS 35 (.bin .shl (ci 1) (tm 34)),none⟩,⟨4,0,15,oS 36 (.bin .or (tm 33) (tm 35)),none⟩,⟨5,0,0,oS 37 (.fldA 1 (tm 2)),none⟩,⟨6,0,32,oS 38 (.load none (tm 37)),none⟩,⟨7,0,127,oS 39
 (.build [(.int .i64 0),(.int .i64 0)] [(0,1,(tm 36)),(1,1,(tm 38))]),none⟩,⟨8,0,0,oS 7 (.alloc 89 [(.int .i64 0),(.int .i64 0)]),none⟩,⟨9,1,511,oN (.store 2 (tm 7) (tm 39)),none⟩]) ( .seq (.region 0
 [oS 41 (.load none (tm 1)),oS 42 (.nilc (tm 41)),oS 43 (.fldA 5 (tm 42)),oS 44 (.load none (tm 43)),oS 45 (.mv (tm 5)),oS 46 (.look [(.int .i64)] false (.int .i64 0) true (tm 44) (tm 45)),oS 40 (.mv
 (tm 46)),oS 47 (.extr (tm 40) 0),oS 48 (.extr (tm 40) 1),oS 8 (.mv (tm 47)),oS 9 (.mv (tm 48))]) ( .seq (.seq (.region 0 [oS 49 (.mv (tm 9)),oS 50 (.mv (tm 49)),oG 51 (.mv (tm 8)) 50 true,oG 52
 (.fldA 1 (tm 2)) 50 true,oG 53 (.load none (tm 52)) 50 true,oG 54 (.bin .gtr (tm 51) (tm 53)) 50 true,oS 55 (.pick (tm 50) (tm 54) (.const (.bool false))),oS 56 (.mv (tm 55)),oG 57 (.mv (tm 0)) 56
 true,oG 58 (.mv (tm 4)) 56 true,oG 59 (.fldA 0 (tm 7)) 56 true,oG 60 (.load none (tm 59)) 56 true,oG 61 (.mv (tm 8)) 56 true,oG 62 (.build [(.int .i64 0),(.int .i64 0)] [(0,1,(tm 60)),(1,1,(tm 61))])
 56 true,oG 63 (.mv (tm 6)) 56 true,oG 64 (.build [(.int .i64 0),(.int .i64 0)] [(0,1,(tm 63)),(1,1,(ci 0))]) 56 true,oG 65 (.build [(.int .i64 0),(.int .i64 0),(.int .i64 0),(.int .i64 0),(.int .i64
 0)] [(0,1,(tm 58)),(1,2,(tm 62)),(3,2,(tm 64))]) 56 true,oG 66 (.call (tm 57) [(tm 65)]) 56 true,oG 67 (.un .not (tm 66)) 56 true,oS 68 (.pick (tm 56) (tm 67) (.const (.bool false)))]) ( .cond (tm
 68) ( .ret) ( .skip))) ( .seq (.region 0 [oS 10 (.mv (ci 0))]) ( .seq (.seq (.region 0 [oS 69 (.mv (tm 9))]) ( .cond (tm 69) ( .region 0 [oS 10 (.mv (ci 1))]) ( .skip))) ( .seq (.region 0 [oS 70 (.mv
 (tm 0)),oS 71 (.mv (tm 4)),oS 72 (.load (some 2) (tm 7)),oS 73 (.mv (tm 6)),oS 74 (.mv (tm 10)),oS 75 (.build [(.int .i64 0),(.int .i64 0)] [(0,1,(tm 73)),(1,1,(tm 74))]),oS 76 (.build [(.int .i64
 0),(.int .i64 0),(.int .i64 0),(.int .i64 0),(.int .i64 0)] [(0,1,(tm 71)),(1,2,(tm 72)),(3,2,(tm 75))]),oS 77 (.call (tm 70) [(tm 76)]),oS 78 (.un .not (tm 77))]) ( .cond (tm 78) ( .ret) (
 .skip)))))))))))) ( .region 0 [oS 79 (.bin .add (tm 16) (ci 1)),oS 16 (.mv (tm 79))]))))))⟩
def f72 : IFn:=⟨75,[.tmp 6],.seq (.region 0 [oS 6 (.mv (ci 0))]) ( .seq (.region 0 [oS 7 (.mv (ci 0))]) ( .seq (.seq (.region 0 [oS 12 (.mv (tm 0)),oS 13 (.nilc (tm 12)),oS 14 (.fldA 6 (tm 13)),oS 15 (.load none (tm
 14)),oS 16 (.ln (tm 15)),oS 17 (.mv (ci 0))]) ( .block 0 ( .loop ( .seq (.region 0 [oS 18 (.bin .lss (tm 17) (tm 16))]) ( .seq (.cond (tm 18) ( .skip) ( .exit 0)) ( .seq (.block 1 ( .seq (.region 0
 [oS 19 (.idxA none 1 (tm 15) (tm 17)),oS 20 (.load none (tm 19)),oS 9 (.mv (tm 20))]) ( .draw 0 [⟨0,0,0,oS 21 (.mv (tm 7)),none⟩,⟨1,0,0,oS 22 (.mv (tm 0)),none⟩,⟨2,0,2,oS 23 (.nilc (tm
 22)),none⟩,⟨3,0,6,oS 24 (.fldA 8 (tm 23)),none⟩,⟨4,0,14,oS 25 (.load none (tm 24)),none⟩,⟨5,0,0,oS 26 (.mv (tm 0)),none⟩,⟨6,0,32,oS 27 (.nilc (tm 26)),none⟩,⟨7,0,96,oS 28 (.fldA 4 (tm
 27)),none⟩,⟨8,0,224,oS 29 (.load none (tm 28)),none⟩,⟨9,0,0,oS 30 (.mv (tm 1)),none⟩,⟨10,0,992,oS 31 (.idxA none 1 (tm 29) (tm 30)),none⟩,⟨11,0,2016,oS 32 (.load none (tm 31)),none⟩,⟨12,0,4094,oS 33
 (.idxA none 1 (tm 25) (tm 32)),none⟩,⟨13,0,8190,oS 34 (.load none (tm 33)),none⟩,⟨14,0,0,oS 35 (.mv (tm 9)),none⟩,⟨15,0,32766,oS 36 (.idxA none 1 (tm 34) (tm 35)),none⟩,⟨16,0,65534,oS 37 (.load none
 (tm 36)),none⟩,⟨17,0,131071,oS 38 (.bin .add (tm 21) (tm 37)),none⟩,⟨18,0,262143,oS 7 (.mv (tm 38)),none⟩]))) ( .region 0 [oS 39 (.bin .add (tm 17) (ci 1)),oS 17 (.mv (tm 39))]))))))) ( .seq (.seq
 (.region 0 [oS 40 (.mv (tm 0)),oS 41 (.nilc (tm 40)),oS 42 (.fldA 4 (tm 41)),oS 43 (.load none (tm 42)),oS 44 (.ln (tm 43)),oS 45 (.mv (ci 0))]) ( .block 2 ( .loop ( .seq (.region 0 [oS 46 (.bin .lss
 (tm 45) (tm 44))]) ( .seq (.cond (tm 46) ( .skip) ( .exit 2)) ( .seq (.block 3 ( .seq (.region 0 [oS 47 (.mv (tm 45)),oS 48 (.idxA none 1 (tm 43) (tm 45)),oS 49 (.load none (tm 48)),oS 10 (.mv (tm
 47)),oS 11 (.mv (tm 49))]) ( .seq (.region 0 [oS 50 (.mv (tm 2)),oS 51 (.mv (tm 10)),oS 52 (.bin .shr (tm 50) (tm 51)),oS 53 (.bin .and (tm 52) (ci 1)),oS 54 (.bin .eql (tm 53) (ci 1))]) ( .cond (tm
 54) ( .draw 0 [⟨0,0,0,oS 55 (.mv (tm 7)),none⟩,⟨1,0,0,oS 56 (.mv (tm 0)),none⟩,⟨2,0,2,oS 57 (.nilc (tm 56)),none⟩,⟨3,0,6,oS 58 (.fldA 8 (tm 57)),none⟩,⟨4,0,14,oS 59 (.load none (tm
 58)),none⟩,⟨5,0,0,oS 60 (.mv (tm 0)),none⟩,⟨6,0,32,oS 61 (.nilc (tm 60)),none⟩,⟨7,0,96,oS 62 (.fldA 4 (tm 61)),none⟩,⟨8,0,224,oS 63 (.load none (tm 62)),none⟩,⟨9,0,0,oS 64 (.mv (tm
 1)),none⟩,⟨10,0,992,oS 65 (.idxA none 1 (tm 63) (tm 64)),none⟩,⟨11,0,2016,oS 66 (.load none (tm 65)),none⟩,⟨12,0,4094,oS 67 (.idxA none 1 (tm 59) (tm 66)),none⟩,⟨13,0,8190,oS 68 (.load none (tm
 67)),none⟩,⟨14,0,0,oS 69 (.mv (tm 11)),none⟩,⟨15,0,32766,oS 70 (.idxA none 1 (tm 68) (tm 69)),none⟩,⟨16,0,65534,oS 71 (.load none (tm 70)),none⟩,⟨17,0,131071,oS 72 (.bin .add (tm 55) (tm
 71)),none⟩,⟨18,0,262143,oS 7 (.mv (tm 72)),none⟩]) ( .skip))))) ( .region 0 [oS 73 (.bin .add (tm 45) (ci 1)),oS 45 (.mv (tm 73))]))))))) ( .seq (.region 0 [oS 74 (.mv (tm 7)),oS 6 (.mv (tm 74))]) (
 .ret)))))⟩
def f73 : IFn:=⟨26,[],.seq (.region 1 [oS 2 (.box 135 (tm 0))]) ( .seq (.region 2 [oS 8 (.load none (tm 1)),oS 9 (.call (.func 39) [(tm 8)]),oS 7 (.mv (tm 9)),oS 10 (.extr (tm 7) 0),oS 11 (.extr (tm 7) 1),oS 3
 (.alloc 89 [(.int .i64 0),(.int .i64 0)]),oS 4 (.alloc 79 [(.int .i64 0),(.int .i64 0)]),oN (.store 2 (tm 3) (tm 10)),oN (.store 2 (tm 4) (tm 11))]) ( .seq (.region 1 [oS 12 (.load none (tm 1)),oS 13
 (.call (.func 36) [(tm 12)]),oS 5 (.alloc 79 [(.int .i64 0),(.int .i64 0)]),oN (.store 2 (tm 5) (tm 13))]) ( .seq (.region 1 [oS 6 (.alloc 136 [.nilFunc])]) ( .seq (.region 0 [oS 14 (.mkfn (.func 74)
 [] [(tm 1),(tm 2),(tm 5),(tm 6)]),oN (.store 1 (tm 6) (tm 14))]) ( .draw 1 [⟨0,0,0,oS 15 (.load none (tm 6)),none⟩,⟨1,0,0,oS 16 (.load none (tm 1)),none⟩,⟨2,0,2,oS 17 (.nilc (tm 16)),none⟩,⟨3,0,6,oS
 18 (.fldA 6 (tm 17)),none⟩,⟨4,0,14,oS 19 (.load none (tm 18)),none⟩,⟨6,0,0,oS 21 (.mkmap),none⟩,⟨7,1,0,oS 22 (.load (some 2) (tm 3)),none⟩,⟨8,1,0,oS 23 (.load (some 2) (tm 4)),none⟩,⟨9,1,448,oN
 (.mset [(.int .i64),(.int .i64)] true (tm 21) (tm 22) (tm 23)),(some 6)⟩,⟨10,1,960,oS 24 (.mv (tm 21)),none⟩,⟨5,0,30,oS 20 (.call (.func 25) [(tm 19)]),none⟩,⟨11,1,2047,oS 25 (.call (tm 15) [(tm
 20),(tm 24)]),none⟩])))))⟩
def f74 : IFn:=⟨104,[.tmp 8],.seq (.region 0 [oS 8 (.mv (.const (.bool false)))]) ( .seq (.seq (.region 0 [oS 18 (.mv (tm 0)),oS 19 (.ln (tm 18)),oS 20 (.load none (tm 2)),oS 21 (.nilc (tm 20)),oS 22 (.fldA 0 (tm
 21)),oS 23 (.fldA 0 (tm 22)),oS 24 (.fldA 0 (tm 23)),oS 25 (.load none (tm 24)),oS 26 (.bin .eql (tm 19) (tm 25))]) ( .cond (tm 26) ( .seq (.draw 0 [⟨0,0,0,oS 27 (.load none (tm 3)),none⟩,⟨1,0,0,oS
 28 (.mv (tm 0)),none⟩,⟨2,0,2,oS 29 (.call (.func 25) [(tm 28)]),none⟩,⟨3,0,7,oS 30 (.call (tm 27) [(tm 29)]),none⟩,⟨4,0,15,oS 8 (.mv (tm 30)),none⟩]) ( .ret)) ( .skip))) ( .seq (.seq (.region 0 [oS
 31 (.load none (tm 2)),oS 32 (.nilc (tm 31)),oS 33 (.fldA 4 (tm 32)),oS 34 (.load none (tm 33)),oS 35 (.ln (tm 34)),oS 36 (.mv (ci 0))]) ( .block 0 ( .loop ( .seq (.region 0 [oS 37 (.bin .lss (tm 36)
 (tm 35))]) ( .seq (.cond (tm 37) ( .skip) ( .exit 0)) ( .seq (.block 1 ( .seq (.region 1 [oS 38 (.mv (tm 36)),oS 39 (.idxA none 1 (tm 34) (tm 36)),oS 40 (.load none (tm 39)),oS 9 (.alloc 3 [(.int
 .i64 0)]),oN (.store 1 (tm 9) (tm 38)),oS 10 (.mv (tm 40))]) ( .seq (.region 2 [oS 41 (.mkmap),oS 11 (.alloc 92 [(.map none)]),oN (.store 1 (tm 11) (tm 41))]) ( .seq (.seq (.region 1 [oS 42 (.mv (tm
 1)),oS 43 (.rngm (tm 42))]) ( .block 2 ( .loop ( .seq (.region 0 [oS 44 (.nxtm (tm 43)),oS 45 (.extr (tm 44) 0)]) ( .seq (.cond (tm 45) ( .skip) ( .exit 2)) ( .block 3 ( .seq (.region 2 [oS 46
 (.entry (tm 43)),oS 47 (.extr (tm 46) 0),oS 48 (.extr (tm 46) 1),oS 12 (.alloc 89 [(.int .i64 0),(.int .i64 0)]),oS 13 (.alloc 79 [(.int .i64 0),(.int .i64 0)]),oN (.store 2 (tm 12) (tm 47)),oN
 (.store 2 (tm 13) (tm 48))]) ( .seq (.region 0 [oS 49 (.load none (tm 2)),oS 50 (.load (some 2) (tm 12)),oS 51 (.call (.func 42) [(tm 49),(tm 50)])]) ( .block 4 ( .rangeF (tm 51) [52] (.region 1 [oS
 14 (.alloc 101 [(.int .i64 0),(.int .i64 0),(.int .i64 0),(.int .i64 0),(.int .i64 0)]),oN (.store 5 (tm 14) (tm 52))]) (.block 5 ( .seq (.seq (.region 0 [oS 53 (.fldA 0 (tm 14)),oS 54 (.load none
 (tm 53)),oS 55 (.load none (tm 9)),oS 56 (.bin .neq (tm 54) (tm 55))]) ( .cond (tm 56) ( .exit 5) ( .skip))) ( .seq (.region 1 [oS 57 (.load (some 2) (tm 13)),oS 58 (.fldA 3 (tm 14)),oS 59 (.load
 (some 2) (tm 58)),oS 60 (.call (.func 43) [(tm 57),(tm 59)]),oS 15 (.alloc 79 [(.int .i64 0),(.int .i64 0)]),oN (.store 2 (tm 15) (tm 60))]) ( .seq (.region 1 [oS 62 (.load none (tm 11)),oS 63 (.fldA
 1 (tm 14)),oS 64 (.load (some 2) (tm 63)),oS 65 (.look [(.int .i64),(.int .i64)] true (.agg #[(.int .i64 0),(.int .i64 0)]) true (tm 62) (tm 64)),oS 61 (.mv (tm 65)),oS 66 (.extr (tm 61) 0),oS 67
 (.extr (tm 61) 1),oS 16 (.alloc 79 [(.int .i64 0),(.int .i64 0)]),oN (.store 2 (tm 16) (tm 66)),oS 17 (.mv (tm 67))]) ( .seq (.draw 0 [⟨0,0,0,oS 68 (.load (some 2) (tm 15)),none⟩,⟨1,0,0,oS 69 (.load
 none (tm 2)),none⟩,⟨2,0,0,oS 70 (.fldA 1 (tm 14)),none⟩,⟨3,0,4,oS 71 (.load (some 2) (tm 70)),none⟩,⟨6,0,0,oS 74 (.load (some 2) (tm 4)),none⟩,⟨4,0,14,oS 72 (.call (.func 69) [(tm 69),(tm
 71)]),none⟩,⟨5,0,31,oS 73 (.call (.func 43) [(tm 68),(tm 72)]),none⟩,⟨7,0,127,oS 75 (.eqc false [(.int .i64),(.int .i64)] true (tm 73) (tm 74)),none⟩,⟨8,0,255,oS 76 (.mv (tm 75)),none⟩,⟨9,0,511,oG 77
 (.mv (tm 17)) 76 true,none⟩,⟨10,0,1023,oG 78 (.un .not (tm 77)) 76 true,none⟩,⟨11,0,2047,oG 79 (.mv (tm 78)) 76 true,none⟩,⟨12,0,4095,oG 80 (.load (some 2) (tm 15)) 79 false,none⟩,⟨13,0,4095,oG 81
 (.load (some 2) (tm 16)) 79 false,none⟩,⟨14,0,16383,oG 82 (.call (.func 41) [(tm 80),(tm 81)]) 79 false,none⟩,⟨15,0,32767,oG 83 (.pick (tm 79) (.const (.bool true)) (tm 82)) 76
 true,none⟩,⟨16,0,65535,oS 84 (.pick (tm 76) (tm 83) (.const (.bool false))),none⟩]) ( .cond (tm 84) ( .region 0 [oS 85 (.load none (tm 11)),oS 86 (.fldA 1 (tm 14)),oS 87 (.load (some 2) (tm 86)),oS
 88 (.load (some 2) (tm 15)),oN (.mset [(.int .i64),(.int .i64)] true (tm 85) (tm 87) (tm 88))]) ( .skip))))))))))))))))) ( .seq (.draw 2 [⟨0,0,0,oS 89 (.load none (tm 11)),none⟩,⟨1,0,1,oS 90 (.mlen
 (tm 89)),none⟩,⟨2,0,3,oS 91 (.bin .gtr (tm 90) (ci 0)),none⟩,⟨3,0,7,oS 92 (.mv (tm 91)),none⟩,⟨4,0,15,oG 93 (.load none (tm 5)) 92 true,none⟩,⟨5,0,15,oG 94 (.mv (tm 0)) 92 true,none⟩,⟨7,0,15,oG 96
 (.mv (tm 10)) 92 true,none⟩,⟨8,0,143,oG 97 (.bslice 3 1 [(.int .i64 0)] 1 [(0,1,(tm 96))]) 92 true,none⟩,⟨10,2,15,oG 99 (.load none (tm 11)) 92 true,none⟩,⟨6,0,47,oG 95 (.call (.func 25) [(tm 94)])
 92 true,none⟩,⟨9,1,495,oG 98 (.app 3 1 8 [(.int .i64 0)] (tm 95) (tm 97)) 92 true,none⟩,⟨11,2,2047,oG 100 (.call (tm 93) [(tm 98),(tm 99)]) 92 true,none⟩,⟨12,2,4095,oG 101 (.un .not (tm 100)) 92
 true,none⟩,⟨13,2,8191,oS 102 (.pick (tm 92) (tm 101) (.const (.bool false))),none⟩]) ( .cond (tm 102) ( .seq (.region 0 [oS 8 (.mv (.const (.bool false)))]) ( .ret)) ( .skip))))))) ( .region 0 [oS
 103 (.bin .add (tm 36) (ci 1)),oS 36 (.mv (tm 103))]))))))) ( .seq (.region 0 [oS 8 (.mv (.const (.bool true)))]) ( .ret))))⟩
def f75 : IFn:=⟨19,[.tmp 2],.seq (.region 0 [oS 2 (.mv (.const (.bool false)))]) ( .seq (.region 1 [oS 6 (.mkmap),oS 3 (.mv (tm 6))]) ( .seq (.seq (.region 0 [oS 7 (.mv (tm 0)),oS 8 (.ln (tm 7)),oS 9 (.mv (ci 0))])
 ( .block 0 ( .loop ( .seq (.region 0 [oS 10 (.bin .lss (tm 9) (tm 8))]) ( .seq (.cond (tm 10) ( .skip) ( .exit 0)) ( .seq (.block 1 ( .seq (.region 0 [oS 11 (.idxA none 1 (tm 7) (tm 9)),oS 12 (.load
 none (tm 11)),oS 5 (.mv (tm 12))]) ( .seq (.seq (.region 0 [oS 13 (.mv (tm 3)),oS 14 (.mv (tm 5)),oS 15 (.look [(.int .i64)] false (.bool false) false (tm 13) (tm 14))]) ( .cond (tm 15) ( .seq
 (.region 0 [oS 2 (.mv (.const (.bool true)))]) ( .ret)) ( .skip))) ( .region 0 [oS 16 (.mv (tm 3)),oS 17 (.mv (tm 5)),oN (.mset [(.int .i64)] false (tm 16) (tm 17) (.const (.bool true)))])))) (
 .region 0 [oS 18 (.bin .add (tm 9) (ci 1)),oS 9 (.mv (tm 18))]))))))) ( .seq (.region 0 [oS 2 (.mv (.const (.bool false)))]) ( .ret))))⟩
def f76 : IFn:=⟨58,[],.seq (.region 0 [oS 12 (.mv (tm 0)),oS 11 (.mv (tm 12))]) ( .block 0 ( .loop ( .seq (.seq (.region 0 [oS 13 (.mv (tm 11)),oS 14 (.load none (tm 3)),oS 15 (.ln (tm 14)),oS 16 (.bin .lss (tm 13)
 (tm 15)),oS 17 (.mv (tm 16)),oG 18 (.mv (tm 2)) 17 true,oG 19 (.bin .gtr (tm 18) (ci 0)) 17 true,oS 20 (.pick (tm 17) (tm 19) (.const (.bool false)))]) ( .cond (tm 20) ( .skip) ( .exit 0))) ( .seq
 (.block 1 ( .seq (.draw 0 [⟨0,0,0,oS 23 (.load none (tm 4)),none⟩,⟨1,0,0,oS 24 (.mv (tm 11)),none⟩,⟨2,0,3,oS 25 (.idxA none 1 (tm 23) (tm 24)),none⟩,⟨3,0,7,oS 26 (.load none (tm 25)),none⟩,⟨4,0,0,oS
 27 (.mv (tm 2)),none⟩,⟨5,0,31,oS 28 (.bin .eql (tm 26) (tm 27)),none⟩,⟨6,0,63,oS 29 (.mv (tm 28)),none⟩,⟨7,0,127,oG 30 (.load none (tm 5)) 29 true,none⟩,⟨8,0,127,oG 31 (.load none (tm 3)) 29
 true,none⟩,⟨9,0,127,oG 32 (.mv (tm 11)) 29 true,none⟩,⟨10,0,895,oG 33 (.idxA none 1 (tm 31) (tm 32)) 29 true,none⟩,⟨11,0,1919,oG 34 (.load none (tm 33)) 29 true,none⟩,⟨12,0,4095,oG 35 (.look [(.int
 .i64)] false (.int .i64 0) false (tm 30) (tm 34)) 29 true,none⟩,⟨13,0,127,oG 36 (.mv (tm 1)) 29 true,none⟩,⟨14,0,16383,oG 37 (.bin .gtr (tm 35) (tm 36)) 29 true,none⟩,⟨15,0,32767,oS 38 (.pick (tm 29)
 (tm 37) (.const (.bool false))),none⟩]) ( .cond (tm 38) ( .seq (.draw 2 [⟨0,0,0,oS 39 (.load none (tm 6)),none⟩,⟨1,0,0,oS 40 (.load none (tm 3)),none⟩,⟨2,0,0,oS 41 (.mv (tm 11)),none⟩,⟨3,0,6,oS 42
 (.idxA none 1 (tm 40) (tm 41)),none⟩,⟨4,0,14,oS 43 (.load none (tm 42)),none⟩,⟨5,0,30,oS 44 (.bslice 3 1 [(.int .i64 0)] 1 [(0,1,(tm 43))]),none⟩,⟨6,1,63,oS 45 (.app 3 1 8 [(.int .i64 0)] (tm 39) (tm
 44)),none⟩,⟨7,2,127,oN (.store 1 (tm 6) (tm 45)),none⟩]) ( .seq (.draw 0 [⟨0,0,0,oS 46 (.load none (tm 7)),none⟩,⟨1,0,0,oS 47 (.mv (tm 11)),none⟩,⟨2,0,2,oS 48 (.bin .add (tm 47) (ci
 1)),none⟩,⟨3,0,0,oS 49 (.load none (tm 5)),none⟩,⟨4,0,0,oS 50 (.load none (tm 3)),none⟩,⟨5,0,0,oS 51 (.mv (tm 11)),none⟩,⟨6,0,48,oS 52 (.idxA none 1 (tm 50) (tm 51)),none⟩,⟨7,0,112,oS 53 (.load none
 (tm 52)),none⟩,⟨8,0,248,oS 54 (.look [(.int .i64)] false (.int .i64 0) false (tm 49) (tm 53)),none⟩,⟨9,0,0,oS 55 (.mv (tm 2)),none⟩,⟨10,0,512,oS 56 (.bin .sub (tm 55) (ci 1)),none⟩,⟨11,0,2047,oS 57
 (.call (tm 46) [(tm 48),(tm 54),(tm 56)]),none⟩]) ( .ret))) ( .skip)))) ( .region 0 [oS 21 (.mv (tm 11)),oS 22 (.bin .add (tm 21) (ci 1)),oS 11 (.mv (tm 22))])))))⟩
def f79 : IFn:=⟨15,[.tmp 6],.seq (.region 0 [oS 6 (.mv (.const (.bool false)))]) ( .seq (.region 0 [oS 7 (.mv (tm 0)),oS 8 (.mv (tm 1)),oS 9 (.bin .geq (tm 7) (tm 8)),oS 10 (.mv (tm 9)),oG 11 (.mv (tm 0)) 10 true,oG
 12 (.mv (tm 2)) 10 true,oG 13 (.bin .leq (tm 11) (tm 12)) 10 true,oS 14 (.pick (tm 10) (tm 13) (.const (.bool false))),oS 6 (.mv (tm 14))]) ( .ret))⟩
def f80 : IFn:=⟨17,[.tmp 4],.seq (.region 2 [oS 2 (.box 86 (tm 0)),oS 3 (.box 86 (tm 1)),oS 4 (.mv (ci 0))]) ( .seq (.draw 1 [⟨0,0,0,oS 5 (.fldA 0 (tm 2)),none⟩,⟨1,0,1,oS 6 (.load none (tm 5)),none⟩,⟨2,0,0,oS 7
 (.fldA 0 (tm 3)),none⟩,⟨3,0,4,oS 8 (.load none (tm 7)),none⟩,⟨5,0,0,oS 10 (.fldA 1 (tm 2)),none⟩,⟨6,0,32,oS 11 (.load none (tm 10)),none⟩,⟨7,0,0,oS 12 (.fldA 1 (tm 3)),none⟩,⟨8,0,128,oS 13 (.load
 none (tm 12)),none⟩,⟨4,0,15,oS 9 (.call (.func 96) [(tm 6),(tm 8)]),none⟩,⟨9,0,511,oS 14 (.call (.func 96) [(tm 11),(tm 13)]),none⟩,⟨10,0,1023,oS 15 (.bslice 3 1 [(.int .i64 0),(.int .i64 0)] 2
 [(0,1,(tm 9)),(1,1,(tm 14))]),none⟩,⟨11,1,2047,oS 16 (.call (.func 95) [(tm 15)]),none⟩,⟨12,1,4095,oS 4 (.mv (tm 16)),none⟩]) ( .ret))⟩
def f81 : IFn:=⟨97,[.cell 4 (some 2),.tmp 5],.seq (.region 2 [oS 2 (.box 24 (tm 0)),oS 4 (.alloc 24 [(.int .i64 0),(.slice none 0 0)]),oS 5 (.mv (ci 0))]) ( .seq (.seq (.region 0 [oS 19 (.load (some 2) (tm 2)),oS 20
 (.call (.func 53) [(tm 19)]),oS 6 (.mv (tm 20))]) ( .seq (.region 0 [oS 21 (.mv (tm 6)),oS 22 (.bin .neq (tm 21) (ci 0))]) ( .cond (tm 22) ( .seq (.region 0 [oS 23 (.build [(.int .i64 0),(.slice none
 0 0)] []),oS 24 (.mv (tm 6)),oN (.store 2 (tm 4) (tm 23)),oS 5 (.mv (tm 24))]) ( .ret)) ( .skip)))) ( .seq (.region 1 [oS 25 (.mkmap),oS 7 (.mv (tm 25))]) ( .seq (.seq (.region 0 [oS 26 (.mv (tm
 1)),oS 27 (.ln (tm 26)),oS 28 (.mv (ci 0))]) ( .block 0 ( .loop ( .seq (.region 0 [oS 29 (.bin .lss (tm 28) (tm 27))]) ( .seq (.cond (tm 29) ( .skip) ( .exit 0)) ( .seq (.block 1 ( .seq (.region 0
 [oS 30 (.mv (tm 28)),oS 31 (.idxA none 1 (tm 26) (tm 28)),oS 32 (.load none (tm 31)),oS 8 (.mv (tm 30)),oS 9 (.mv (tm 32))]) ( .seq (.seq (.region 0 [oS 33 (.mv (tm 9)),oS 34 (.fldA 0 (tm 2)),oS 35
 (.load none (tm 34)),oS 36 (.bin .sub (tm 35) (ci 1)),oS 37 (.call (.func 79) [(tm 33),(ci 0),(tm 36)]),oS 38 (.un .not (tm 37))]) ( .cond (tm 38) ( .seq (.region 0 [oS 39 (.build [(.int .i64
 0),(.slice none 0 0)] []),oN (.store 2 (tm 4) (tm 39)),oS 5 (.mv (ci 1))]) ( .ret)) ( .skip))) ( .seq (.seq (.region 0 [oS 41 (.mv (tm 7)),oS 42 (.mv (tm 9)),oS 43 (.look [(.int .i64)] false (.int
 .i64 0) true (tm 41) (tm 42)),oS 40 (.mv (tm 43)),oS 44 (.extr (tm 40) 0),oS 45 (.extr (tm 40) 1),oS 10 (.mv (tm 44)),oS 11 (.mv (tm 45))]) ( .seq (.region 0 [oS 46 (.mv (tm 11))]) ( .cond (tm 46) (
 .seq (.region 0 [oS 47 (.build [(.int .i64 0),(.slice none 0 0)] []),oN (.store 2 (tm 4) (tm 47)),oS 5 (.mv (ci 6))]) ( .ret)) ( .skip)))) ( .region 0 [oS 48 (.mv (tm 7)),oS 49 (.mv (tm 9)),oS 50
 (.mv (tm 8)),oN (.mset [(.int .i64)] false (tm 48) (tm 49) (tm 50))]))))) ( .region 0 [oS 51 (.bin .add (tm 28) (ci 1)),oS 28 (.mv (tm 51))]))))))) ( .seq (.region 1 [oS 52 (.mv (tm 1)),oS 53 (.ln
 (tm 52)),oS 54 (.build [(.int .i64 0),(.slice none 0 0)] [(0,1,(tm 53))]),oS 12 (.alloc 24 [(.int .i64 0),(.slice none 0 0)]),oN (.store 2 (tm 12) (tm 54))]) ( .seq (.seq (.region 0 [oS 55 (.fldA 1
 (tm 2)),oS 56 (.load none (tm 55)),oS 57 (.ln (tm 56)),oS 58 (.mv (ci 0))]) ( .block 2 ( .loop ( .seq (.region 0 [oS 59 (.bin .lss (tm 58) (tm 57))]) ( .seq (.cond (tm 59) ( .skip) ( .exit 2)) ( .seq
 (.block 3 ( .seq (.region 1 [oS 60 (.idxA none 4 (tm 56) (tm 58)),oS 61 (.load (some 4) (tm 60)),oS 14 (.alloc 86 [(.int .i64 0),(.int .i64 0),(.int .i64 0),(.int .i64 0)]),oN (.store 4 (tm 14) (tm
 61))]) ( .seq (.region 0 [oS 63 (.mv (tm 7)),oS 64 (.fldA 0 (tm 14)),oS 65 (.load none (tm 64)),oS 66 (.look [(.int .i64)] false (.int .i64 0) true (tm 63) (tm 65)),oS 62 (.mv (tm 66)),oS 67 (.extr
 (tm 62) 0),oS 68 (.extr (tm 62) 1),oS 15 (.mv (tm 67)),oS 16 (.mv (tm 68))]) ( .seq (.region 0 [oS 70 (.mv (tm 7)),oS 71 (.fldA 1 (tm 14)),oS 72 (.load none (tm 71)),oS 73 (.look [(.int .i64)] false
 (.int .i64 0) true (tm 70) (tm 72)),oS 69 (.mv (tm 73)),oS 74 (.extr (tm 69) 0),oS 75 (.extr (tm 69) 1),oS 17 (.mv (tm 74)),oS 18 (.mv (tm 75))]) ( .seq (.region 0 [oS 76 (.mv (tm 16)),oS 77 (.mv (tm
 76)),oG 78 (.mv (tm 18)) 77 true,oS 79 (.pick (tm 77) (tm 78) (.const (.bool false)))]) ( .cond (tm 79) ( .region 2 [oS 80 (.fldA 1 (tm 12)),oS 81 (.load none (tm 80)),oS 82 (.mv (tm 15)),oS 83 (.mv
 (tm 17)),oS 84 (.fldA 2 (tm 14)),oS 85 (.load none (tm 84)),oS 86 (.fldA 3 (tm 14)),oS 87 (.load none (tm 86)),oS 88 (.build [(.int .i64 0),(.int .i64 0),(.int .i64 0),(.int .i64 0)] [(0,1,(tm
 82)),(1,1,(tm 83)),(2,1,(tm 85)),(3,1,(tm 87))]),oS 89 (.bslice 86 4 [(.int .i64 0),(.int .i64 0),(.int .i64 0),(.int .i64 0)] 1 [(0,4,(tm 88))]),oS 90 (.app 86 4 32 [(.int .i64 0),(.int .i64
 0),(.int .i64 0),(.int .i64 0)] (tm 81) (tm 89)),oS 91 (.fldA 1 (tm 12)),oN (.store 1 (tm 91) (tm 90))]) ( .skip))))))) ( .region 0 [oS 92 (.bin .add (tm 58) (ci 1)),oS 58 (.mv (tm 92))]))))))) (
 .seq (.region 0 [oS 93 (.fldA 1 (tm 12)),oS 94 (.load none (tm 93)),oS 95 (.call (.func 97) [(tm 94),(.func 80)])]) ( .seq (.region 0 [oS 96 (.load (some 2) (tm 12)),oN (.store 2 (tm 4) (tm 96)),oS 5
 (.mv (ci 0))]) ( .ret))))))))⟩
def f82 : IFn:=⟨30,[],.seq (.region 1 [oS 4 (.box 24 (tm 1))]) ( .seq (.draw 1 [⟨0,0,0,oS 7 (.load (some 2) (tm 4)),none⟩,⟨1,0,0,oS 8 (.mv (tm 2)),none⟩,⟨2,0,0,oS 9 (.mv (tm 0)),none⟩,⟨3,0,4,oS 10 (.nilc (tm
 9)),none⟩,⟨4,0,12,oS 11 (.fldA 3 (tm 10)),none⟩,⟨5,0,28,oS 12 (.load none (tm 11)),none⟩,⟨6,0,63,oS 13 (.build [(.int .i64 0),(.slice none 0 0),(.slice none 0 0),(.int .i64 0)] [(0,2,(tm 7)),(2,1,(tm
 8)),(3,1,(tm 12))]),none⟩,⟨7,0,0,oS 6 (.alloc 41 [(.int .i64 0),(.slice none 0 0),(.slice none 0 0),(.int .i64 0)]),none⟩,⟨8,1,255,oN (.store 4 (tm 6) (tm 13)),none⟩]) ( .seq (.region 0 [oS 14 (.load
 (some 4) (tm 6)),oS 15 (.call (.func 38) [(tm 14)]),oS 16 (.call (.func 52) [(tm 15)])]) ( .draw 0 [⟨0,0,0,oS 17 (.mv (tm 0)),none⟩,⟨1,0,0,oS 18 (.mv (tm 0)),none⟩,⟨2,0,0,oS 19 (.load (some 2) (tm
 4)),none⟩,⟨3,0,0,oS 20 (.mv (tm 0)),none⟩,⟨4,0,8,oS 21 (.nilc (tm 20)),none⟩,⟨5,0,24,oS 22 (.fldA 4 (tm 21)),none⟩,⟨6,0,56,oS 23 (.load none (tm 22)),none⟩,⟨7,0,0,oS 24 (.load (some 4) (tm
 6)),none⟩,⟨8,0,248,oS 25 (.call (tm 23) [(tm 24)]),none⟩,⟨9,0,509,oS 26 (.nilc (tm 17)),none⟩,⟨10,0,1021,oS 27 (.fldA 0 (tm 26)),none⟩,⟨11,0,2045,oN (.store 2 (tm 27) (tm 19)),none⟩,⟨12,0,4095,oS 28
 (.nilc (tm 18)),none⟩,⟨13,0,8191,oS 29 (.fldA 2 (tm 28)),none⟩,⟨14,0,16383,oN (.store 1 (tm 29) (tm 25)),none⟩])))⟩
def f83 : IFn:=⟨30,[],.seq (.region 1 [oS 4 (.box 38 (tm 1))]) ( .seq (.region 0 [oS 6 (.fldA 2 (tm 4)),oS 7 (.load (some 2) (tm 6)),oS 8 (.call (.func 53) [(tm 7)]),oS 9 (.call (.func 52) [(tm 8)])]) ( .seq (.draw
 0 [⟨0,0,0,oS 10 (.fldA 2 (tm 4)),none⟩,⟨1,0,1,oS 11 (.fldA 0 (tm 10)),none⟩,⟨2,0,3,oS 12 (.load none (tm 11)),none⟩,⟨3,0,0,oS 13 (.mv (tm 0)),none⟩,⟨4,0,8,oS 14 (.nilc (tm 13)),none⟩,⟨5,0,24,oS 15
 (.fldA 0 (tm 14)),none⟩,⟨6,0,56,oS 16 (.fldA 0 (tm 15)),none⟩,⟨7,0,120,oS 17 (.load none (tm 16)),none⟩,⟨8,0,0,oS 18 (.mv (tm 2)),none⟩,⟨9,0,504,oS 19 (.bin .add (tm 17) (tm 18)),none⟩,⟨10,0,1023,oS
 20 (.bin .eql (tm 12) (tm 19)),none⟩,⟨11,0,2047,oS 21 (.call (.func 54) [(tm 20),(ci 1)]),none⟩]) ( .draw 0 [⟨0,0,0,oS 22 (.mv (tm 0)),none⟩,⟨1,0,0,oS 23 (.fldA 2 (tm 4)),none⟩,⟨2,0,2,oS 24 (.load
 (some 2) (tm 23)),none⟩,⟨3,0,0,oS 25 (.mv (tm 0)),none⟩,⟨4,0,8,oS 26 (.nilc (tm 25)),none⟩,⟨5,0,24,oS 27 (.fldA 2 (tm 26)),none⟩,⟨6,0,56,oS 28 (.load none (tm 27)),none⟩,⟨7,0,127,oS 29 (.call (.func
 82) [(tm 22),(tm 24),(tm 28)]),none⟩])))⟩
def f84 : IFn:=⟨13,[.tmp 4],.seq (.region 1 [oS 2 (.box 24 (tm 0)),oS 4 (.mv (.const (.bool false)))]) ( .seq (.region 0 [oS 5 (.mv (tm 1)),oS 6 (.bin .geq (tm 5) (ci 0)),oS 7 (.mv (tm 6)),oG 8 (.mv (tm 1)) 7
 true,oG 9 (.fldA 0 (tm 2)) 7 true,oG 10 (.load none (tm 9)) 7 true,oG 11 (.bin .lss (tm 8) (tm 10)) 7 true,oS 12 (.pick (tm 7) (tm 11) (.const (.bool false))),oS 4 (.mv (tm 12))]) ( .ret))⟩
def f85 : IFn:=⟨44,[.cell 6 (some 4),.tmp 7],.seq (.region 2 [oS 3 (.box 24 (tm 0)),oS 6 (.alloc 86 [(.int .i64 0),(.int .i64 0),(.int .i64 0),(.int .i64 0)]),oS 7 (.mv (.const (.bool false)))]) ( .seq (.seq
 (.region 0 [oS 9 (.load (some 2) (tm 3)),oS 10 (.call (.func 59) [(tm 9)]),oS 11 (.bin .neq (tm 10) (ci 0))]) ( .cond (tm 11) ( .seq (.region 0 [oS 12 (.build [(.int .i64 0),(.int .i64 0),(.int .i64
 0),(.int .i64 0)] []),oN (.store 4 (tm 6) (tm 12)),oS 7 (.mv (.const (.bool false)))]) ( .ret)) ( .skip))) ( .seq (.seq (.region 0 [oS 8 (.mv (ci 0))]) ( .block 0 ( .loop ( .seq (.seq (.region 0 [oS
 13 (.mv (tm 8)),oS 14 (.fldA 1 (tm 3)),oS 15 (.load none (tm 14)),oS 16 (.ln (tm 15)),oS 17 (.bin .lss (tm 13) (tm 16))]) ( .cond (tm 17) ( .skip) ( .exit 0))) ( .seq (.block 1 ( .seq (.region 0 [oS
 20 (.fldA 1 (tm 3)),oS 21 (.load none (tm 20)),oS 22 (.mv (tm 8)),oS 23 (.idxA none 4 (tm 21) (tm 22)),oS 24 (.fldA 0 (tm 23)),oS 25 (.load none (tm 24)),oS 26 (.mv (tm 1)),oS 27 (.bin .eql (tm 25)
 (tm 26)),oS 28 (.mv (tm 27)),oG 29 (.fldA 1 (tm 3)) 28 true,oG 30 (.load none (tm 29)) 28 true,oG 31 (.mv (tm 8)) 28 true,oG 32 (.idxA none 4 (tm 30) (tm 31)) 28 true,oG 33 (.fldA 1 (tm 32)) 28
 true,oG 34 (.load none (tm 33)) 28 true,oG 35 (.mv (tm 2)) 28 true,oG 36 (.bin .eql (tm 34) (tm 35)) 28 true,oS 37 (.pick (tm 28) (tm 36) (.const (.bool false)))]) ( .cond (tm 37) ( .seq (.region 0
 [oS 38 (.fldA 1 (tm 3)),oS 39 (.load none (tm 38)),oS 40 (.mv (tm 8)),oS 41 (.idxA none 4 (tm 39) (tm 40)),oS 42 (.load (some 4) (tm 41)),oN (.store 4 (tm 6) (tm 42)),oS 7 (.mv (.const (.bool
 true)))]) ( .ret)) ( .skip)))) ( .region 0 [oS 18 (.mv (tm 8)),oS 19 (.bin .add (tm 18) (ci 1)),oS 8 (.mv (tm 19))])))))) ( .seq (.region 0 [oS 43 (.build [(.int .i64 0),(.int .i64 0),(.int .i64
 0),(.int .i64 0)] []),oN (.store 4 (tm 6) (tm 43)),oS 7 (.mv (.const (.bool false)))]) ( .ret))))⟩
def f86 : IFn:=⟨106,[],.seq (.region 1 [oS 3 (.box 41 (tm 0))]) ( .seq (.seq (.region 0 [oS 10 (.mv (tm 1)),oS 11 (.ln (tm 10)),oS 12 (.fldA 0 (tm 3)),oS 13 (.fldA 0 (tm 12)),oS 14 (.load none (tm 13)),oS 15 (.bin
 .eql (tm 11) (tm 14))]) ( .cond (tm 15) ( .seq (.region 0 [oS 16 (.fldA 0 (tm 3)),oS 17 (.load (some 2) (tm 16)),oS 18 (.mv (tm 1)),oS 19 (.call (.func 92) [(tm 17),(tm 18)]),oS 6 (.mv (tm 19))]) (
 .seq (.region 0 [oS 20 (.fldA 2 (tm 3)),oS 21 (.load none (tm 20)),oS 22 (.mv (tm 1)),oS 23 (.call (.func 93) [(tm 21),(tm 22)]),oS 7 (.mv (tm 23))]) ( .seq (.seq (.draw 0 [⟨0,0,0,oS 24 (.mv (tm
 2)),none⟩,⟨1,0,1,oS 25 (.nilc (tm 24)),none⟩,⟨2,0,3,oS 26 (.fldA 2 (tm 25)),none⟩,⟨3,0,7,oS 27 (.load none (tm 26)),none⟩,⟨4,0,15,oS 28 (.ln (tm 27)),none⟩,⟨5,0,31,oS 29 (.bin .gtr (tm 28) (ci
 0)),none⟩,⟨6,0,63,oS 30 (.mv (tm 29)),none⟩,⟨7,0,127,oG 31 (.mv (tm 2)) 30 true,none⟩,⟨8,0,255,oG 32 (.nilc (tm 31)) 30 true,none⟩,⟨9,0,511,oG 33 (.fldA 0 (tm 32)) 30 true,none⟩,⟨10,0,1023,oG 34
 (.load none (tm 33)) 30 true,none⟩,⟨11,0,127,oG 35 (.mv (tm 2)) 30 true,none⟩,⟨12,0,2175,oG 36 (.nilc (tm 35)) 30 true,none⟩,⟨13,0,6271,oG 37 (.fldA 1 (tm 36)) 30 true,none⟩,⟨14,0,14463,oG 38 (.load
 none (tm 37)) 30 true,none⟩,⟨15,0,127,oG 39 (.mv (tm 6)) 30 true,none⟩,⟨16,0,127,oG 40 (.mv (tm 7)) 30 true,none⟩,⟨17,0,131071,oG 41 (.call (.func 98) [(tm 34),(tm 38),(tm 39),(tm 40)]) 30
 true,none⟩,⟨18,0,262143,oS 42 (.pick (tm 30) (tm 41) (.const (.bool false))),none⟩]) ( .cond (tm 42) ( .ret) ( .skip))) ( .seq (.seq (.draw 0 [⟨0,0,0,oS 43 (.mv (tm 2)),none⟩,⟨1,0,1,oS 44 (.nilc (tm
 43)),none⟩,⟨2,0,3,oS 45 (.fldA 2 (tm 44)),none⟩,⟨3,0,7,oS 46 (.load none (tm 45)),none⟩,⟨4,0,15,oS 47 (.ln (tm 46)),none⟩,⟨5,0,31,oS 48 (.bin .gtr (tm 47) (ci 0)),none⟩,⟨6,0,63,oS 49 (.mv (tm
 48)),none⟩,⟨7,0,127,oG 50 (.mv (tm 6)) 49 true,none⟩,⟨8,0,127,oG 51 (.mv (tm 7)) 49 true,none⟩,⟨9,0,127,oG 52 (.mv (tm 2)) 49 true,none⟩,⟨10,0,639,oG 53 (.nilc (tm 52)) 49 true,none⟩,⟨11,0,1663,oG 54
 (.fldA 0 (tm 53)) 49 true,none⟩,⟨12,0,3711,oG 55 (.load none (tm 54)) 49 true,none⟩,⟨13,0,127,oG 56 (.mv (tm 2)) 49 true,none⟩,⟨14,0,8319,oG 57 (.nilc (tm 56)) 49 true,none⟩,⟨15,0,24703,oG 58 (.fldA
 1 (tm 57)) 49 true,none⟩,⟨16,0,57471,oG 59 (.load none (tm 58)) 49 true,none⟩,⟨17,0,131071,oG 60 (.call (.func 98) [(tm 50),(tm 51),(tm 55),(tm 59)]) 49 true,none⟩,⟨18,0,262143,oS 61 (.pick (tm 49)
 (tm 60) (.const (.bool false))),none⟩]) ( .cond (tm 61) ( .region 0 [oS 62 (.mv (tm 2)),oS 63 (.nilc (tm 62)),oS 64 (.fldA 2 (tm 63)),oN (.store 1 (tm 64) (.const (.slice none 0 0)))]) ( .skip))) (
 .seq (.region 0 [oS 65 (.mv (tm 2)),oS 66 (.mv (tm 6)),oS 67 (.nilc (tm 65)),oS 68 (.fldA 0 (tm 67)),oN (.store 1 (tm 68) (tm 66))]) ( .seq (.region 0 [oS 69 (.mv (tm 2)),oS 70 (.mv (tm 7)),oS 71
 (.nilc (tm 69)),oS 72 (.fldA 1 (tm 71)),oN (.store 1 (tm 72) (tm 70))]) ( .seq (.draw 4 [⟨0,0,0,oS 73 (.mv (tm 2)),none⟩,⟨1,0,0,oS 74 (.mv (tm 2)),none⟩,⟨2,0,2,oS 75 (.nilc (tm 74)),none⟩,⟨3,0,6,oS
 76 (.fldA 2 (tm 75)),none⟩,⟨4,0,14,oS 77 (.load none (tm 76)),none⟩,⟨5,0,0,oS 78 (.bslice 3 1 [] 0 []),none⟩,⟨6,1,0,oS 79 (.mv (tm 1)),none⟩,⟨7,1,96,oS 80 (.app 3 1 8 [(.int .i64 0)] (tm 78) (tm
 79)),none⟩,⟨8,2,224,oS 81 (.bslice 25 1 [(.slice none 0 0)] 1 [(0,1,(tm 80))]),none⟩,⟨9,3,510,oS 82 (.app 25 1 24 [(.slice none 0 0)] (tm 77) (tm 81)),none⟩,⟨10,4,1023,oS 83 (.nilc (tm
 73)),none⟩,⟨11,4,2047,oS 84 (.fldA 2 (tm 83)),none⟩,⟨12,4,4095,oN (.store 1 (tm 84) (tm 82)),none⟩]) ( .ret)))))))) ( .skip))) ( .seq (.region 0 [oS 8 (.mv (ci 0))]) ( .block 0 ( .loop ( .seq (.seq
 (.region 0 [oS 85 (.mv (tm 8)),oS 86 (.fldA 0 (tm 3)),oS 87 (.fldA 0 (tm 86)),oS 88 (.load none (tm 87)),oS 89 (.bin .lss (tm 85) (tm 88))]) ( .cond (tm 89) ( .skip) ( .exit 0))) ( .seq (.block 1 (
 .seq (.region 0 [oS 92 (.mv (tm 1)),oS 93 (.mv (tm 8)),oS 94 (.call (.func 61) [(tm 92),(tm 93)]),oS 9 (.mv (tm 94))]) ( .seq (.region 0 [oS 95 (.mv (tm 9)),oS 96 (.un .not (tm 95))]) ( .cond (tm 96)
 ( .draw 4 [⟨0,0,0,oS 97 (.load (some 4) (tm 3)),none⟩,⟨1,0,0,oS 98 (.bslice 3 1 [] 0 []),none⟩,⟨2,1,0,oS 99 (.mv (tm 1)),none⟩,⟨4,2,0,oS 101 (.mv (tm 8)),none⟩,⟨5,2,16,oS 102 (.bslice 3 1 [(.int .i64
 0)] 1 [(0,1,(tm 101))]),none⟩,⟨7,4,0,oS 104 (.mv (tm 2)),none⟩,⟨3,1,6,oS 100 (.app 3 1 8 [(.int .i64 0)] (tm 98) (tm 99)),none⟩,⟨6,3,62,oS 103 (.app 3 1 8 [(.int .i64 0)] (tm 100) (tm
 102)),none⟩,⟨8,4,255,oS 105 (.call (.func 86) [(tm 97),(tm 103),(tm 104)]),none⟩]) ( .skip))))) ( .region 0 [oS 90 (.mv (tm 8)),oS 91 (.bin .add (tm 90) (ci 1)),oS 8 (.mv (tm 91))])))))))⟩
def f87 : IFn:=⟨93,[.tmp 4],.seq (.region 0 [oS 4 (.mv (.const (.slice none 0 0)))]) ( .seq (.region 0 [oS 5 (.mv (.const (.slice none 0 0)))]) ( .seq (.seq (.region 0 [oS 6 (.mv (ci 0))]) ( .block 0 ( .loop ( .seq
 (.seq (.region 0 [oS 9 (.mv (tm 6)),oS 10 (.mv (tm 0)),oS 11 (.ln (tm 10)),oS 12 (.bin .leq (tm 9) (tm 11))]) ( .cond (tm 12) ( .skip) ( .exit 0))) ( .seq (.block 1 ( .region 3 [oS 15 (.mv (tm 5)),oS
 16 (.mv (tm 1)),oS 17 (.ln (tm 16)),oS 18 (.bin .add (tm 17) (ci 1)),oS 19 (.mksl 3 1 8 [(.int .i64 0)] (tm 18) (tm 18)),oS 20 (.bslice 25 1 [(.slice none 0 0)] 1 [(0,1,(tm 19))]),oS 21 (.app 25 1 24
 [(.slice none 0 0)] (tm 15) (tm 20)),oS 5 (.mv (tm 21))])) ( .region 0 [oS 13 (.mv (tm 6)),oS 14 (.bin .add (tm 13) (ci 1)),oS 6 (.mv (tm 14))])))))) ( .seq (.seq (.region 0 [oS 22 (.mv (tm 0)),oS 23
 (.ln (tm 22)),oS 24 (.bin .sub (tm 23) (ci 1)),oS 7 (.mv (tm 24))]) ( .block 2 ( .loop ( .seq (.seq (.region 0 [oS 25 (.mv (tm 7)),oS 26 (.bin .geq (tm 25) (ci 0))]) ( .cond (tm 26) ( .skip) ( .exit
 2))) ( .seq (.block 3 ( .seq (.region 0 [oS 29 (.mv (tm 1)),oS 30 (.ln (tm 29)),oS 31 (.bin .sub (tm 30) (ci 1)),oS 8 (.mv (tm 31))]) ( .block 4 ( .loop ( .seq (.seq (.region 0 [oS 32 (.mv (tm 8)),oS
 33 (.bin .geq (tm 32) (ci 0))]) ( .cond (tm 33) ( .skip) ( .exit 4))) ( .seq (.block 5 ( .seq (.draw 0 [⟨0,0,0,oS 36 (.mv (tm 5)),none⟩,⟨1,0,0,oS 37 (.mv (tm 7)),none⟩,⟨2,0,3,oS 38 (.idxA none 1 (tm
 36) (tm 37)),none⟩,⟨3,0,7,oS 39 (.load none (tm 38)),none⟩,⟨4,0,0,oS 40 (.mv (tm 8)),none⟩,⟨5,0,0,oS 41 (.mv (tm 5)),none⟩,⟨6,0,0,oS 42 (.mv (tm 7)),none⟩,⟨7,0,64,oS 43 (.bin .add (tm 42) (ci
 1)),none⟩,⟨8,0,224,oS 44 (.idxA none 1 (tm 41) (tm 43)),none⟩,⟨9,0,480,oS 45 (.load none (tm 44)),none⟩,⟨10,0,0,oS 46 (.mv (tm 8)),none⟩,⟨11,0,2016,oS 47 (.idxA none 1 (tm 45) (tm
 46)),none⟩,⟨12,0,4064,oS 48 (.load none (tm 47)),none⟩,⟨13,0,0,oS 49 (.mv (tm 5)),none⟩,⟨14,0,0,oS 50 (.mv (tm 7)),none⟩,⟨15,0,24576,oS 51 (.idxA none 1 (tm 49) (tm 50)),none⟩,⟨16,0,57344,oS 52
 (.load none (tm 51)),none⟩,⟨17,0,0,oS 53 (.mv (tm 8)),none⟩,⟨18,0,131072,oS 54 (.bin .add (tm 53) (ci 1)),none⟩,⟨19,0,516096,oS 55 (.idxA none 1 (tm 52) (tm 54)),none⟩,⟨20,0,1040384,oS 56 (.load none
 (tm 55)),none⟩,⟨21,0,2097120,oS 57 (.maxb [(tm 48),(tm 56)]),none⟩,⟨22,0,4194303,oS 58 (.idxA none 1 (tm 39) (tm 40)),none⟩,⟨23,0,8388607,oN (.store 1 (tm 58) (tm 57)),none⟩]) ( .seq (.draw 0
 [⟨0,0,0,oS 59 (.mv (tm 0)),none⟩,⟨1,0,0,oS 60 (.mv (tm 7)),none⟩,⟨2,0,3,oS 61 (.idxA none 1 (tm 59) (tm 60)),none⟩,⟨3,0,7,oS 62 (.load none (tm 61)),none⟩,⟨4,0,0,oS 63 (.mv (tm 1)),none⟩,⟨5,0,0,oS 64
 (.mv (tm 8)),none⟩,⟨6,0,48,oS 65 (.idxA none 1 (tm 63) (tm 64)),none⟩,⟨7,0,112,oS 66 (.load none (tm 65)),none⟩,⟨8,0,255,oS 67 (.bin .eql (tm 62) (tm 66)),none⟩]) ( .cond (tm 67) ( .draw 0 [⟨0,0,0,oS
 68 (.mv (tm 5)),none⟩,⟨1,0,0,oS 69 (.mv (tm 7)),none⟩,⟨2,0,3,oS 70 (.idxA none 1 (tm 68) (tm 69)),none⟩,⟨3,0,7,oS 71 (.load none (tm 70)),none⟩,⟨4,0,0,oS 72 (.mv (tm 8)),none⟩,⟨5,0,0,oS 73 (.mv (tm
 5)),none⟩,⟨6,0,0,oS 74 (.mv (tm 7)),none⟩,⟨7,0,96,oS 75 (.idxA none 1 (tm 73) (tm 74)),none⟩,⟨8,0,224,oS 76 (.load none (tm 75)),none⟩,⟨9,0,0,oS 77 (.mv (tm 8)),none⟩,⟨10,0,992,oS 78 (.idxA none 1
 (tm 76) (tm 77)),none⟩,⟨11,0,2016,oS 79 (.load none (tm 78)),none⟩,⟨12,0,0,oS 80 (.mv (tm 5)),none⟩,⟨13,0,0,oS 81 (.mv (tm 7)),none⟩,⟨14,0,8192,oS 82 (.bin .add (tm 81) (ci 1)),none⟩,⟨15,0,28672,oS
 83 (.idxA none 1 (tm 80) (tm 82)),none⟩,⟨16,0,61440,oS 84 (.load none (tm 83)),none⟩,⟨17,0,0,oS 85 (.mv (tm 8)),none⟩,⟨18,0,131072,oS 86 (.bin .add (tm 85) (ci 1)),none⟩,⟨19,0,520192,oS 87 (.idxA
 none 1 (tm 84) (tm 86)),none⟩,⟨20,0,1044480,oS 88 (.load none (tm 87)),none⟩,⟨21,0,2093056,oS 89 (.bin .add (ci 1) (tm 88)),none⟩,⟨22,0,4194272,oS 90 (.maxb [(tm 79),(tm 89)]),none⟩,⟨23,0,8388607,oS
 91 (.idxA none 1 (tm 71) (tm 72)),none⟩,⟨24,0,16777215,oN (.store 1 (tm 91) (tm 90)),none⟩]) ( .skip))))) ( .region 0 [oS 34 (.mv (tm 8)),oS 35 (.bin .sub (tm 34) (ci 1)),oS 8 (.mv (tm 35))]))))))) (
 .region 0 [oS 27 (.mv (tm 7)),oS 28 (.bin .sub (tm 27) (ci 1)),oS 7 (.mv (tm 28))])))))) ( .seq (.region 0 [oS 92 (.mv (tm 5)),oS 4 (.mv (tm 92))]) ( .ret)))))⟩
def f89 : IFn:=⟨15,[.tmp 4],.seq (.region 1 [oS 2 (.box 24 (tm 0)),oS 4 (.mv (ci 0))]) ( .seq (.seq (.region 0 [oS 6 (.load (some 2) (tm 2)),oS 7 (.call (.func 53) [(tm 6)]),oS 5 (.mv (tm 7))]) ( .seq (.region 0 [oS
 8 (.mv (tm 5)),oS 9 (.bin .neq (tm 8) (ci 0))]) ( .cond (tm 9) ( .seq (.region 0 [oS 10 (.mv (tm 5)),oS 4 (.mv (tm 10))]) ( .ret)) ( .skip)))) ( .seq (.region 0 [oS 11 (.fldA 0 (tm 2)),oS 12 (.load
 none (tm 11)),oS 13 (.mv (tm 1)),oS 14 (.call (.func 44) [(tm 12),(tm 13)]),oS 4 (.mv (tm 14))]) ( .ret)))⟩
def f90 : IFn:=⟨22,[.tmp 4],.seq (.region 1 [oS 2 (.box 24 (tm 0)),oS 4 (.mv (ci 0))]) ( .seq (.region 0 [oS 5 (.mv (ci 0))]) ( .seq (.seq (.region 0 [oS 8 (.load (some 2) (tm 2)),oS 9 (.mv (tm 1)),oS 10 (.call
 (.func 99) [(tm 8),(tm 9)]),oS 11 (.ln (tm 10)),oS 12 (.mv (ci 0))]) ( .block 0 ( .loop ( .seq (.region 0 [oS 13 (.bin .lss (tm 12) (tm 11))]) ( .seq (.cond (tm 13) ( .skip) ( .exit 0)) ( .seq
 (.block 1 ( .seq (.region 1 [oS 14 (.idxA none 3 (tm 10) (tm 12)),oS 15 (.load (some 3) (tm 14)),oS 7 (.alloc 156 [(.int .i64 0),(.int .i64 0),(.int .i64 0)]),oN (.store 3 (tm 7) (tm 15))]) ( .region
 0 [oS 16 (.mv (tm 5)),oS 17 (.fldA 2 (tm 7)),oS 18 (.load none (tm 17)),oS 19 (.bin .add (tm 16) (tm 18)),oS 5 (.mv (tm 19))]))) ( .region 0 [oS 20 (.bin .add (tm 12) (ci 1)),oS 12 (.mv (tm
 20))]))))))) ( .seq (.region 0 [oS 21 (.mv (tm 5)),oS 4 (.mv (tm 21))]) ( .ret))))⟩
def f91 : IFn:=⟨22,[.tmp 4],.seq (.region 1 [oS 2 (.box 41 (tm 0)),oS 4 (.mv (.const (.bool false)))]) ( .seq (.draw 0 [⟨0,0,0,oS 5 (.mv (tm 1)),none⟩,⟨1,0,1,oS 6 (.ln (tm 5)),none⟩,⟨2,0,0,oS 7 (.fldA 3 (tm
 2)),none⟩,⟨3,0,4,oS 8 (.load none (tm 7)),none⟩,⟨4,0,15,oS 9 (.bin .geq (tm 6) (tm 8)),none⟩,⟨5,0,31,oS 10 (.mv (tm 9)),none⟩,⟨6,0,63,oG 11 (.mv (tm 1)) 10 true,none⟩,⟨7,0,63,oG 12 (.fldA 3 (tm 2))
 10 true,none⟩,⟨8,0,191,oG 13 (.load none (tm 12)) 10 true,none⟩,⟨9,0,511,oG 14 (.slc 3 1 (tm 11) none (some (tm 13)) none) 10 true,none⟩,⟨10,0,63,oG 15 (.fldA 2 (tm 2)) 10 true,none⟩,⟨11,0,1087,oG 16
 (.load none (tm 15)) 10 true,none⟩,⟨12,0,63,oG 17 (.fldA 3 (tm 2)) 10 true,none⟩,⟨13,0,4159,oG 18 (.load none (tm 17)) 10 true,none⟩,⟨14,0,15423,oG 19 (.slc 3 1 (tm 16) none (some (tm 18)) none) 10
 true,none⟩,⟨15,0,32767,oG 20 (.call (.func 15) [(tm 14),(tm 19)]) 10 true,none⟩,⟨16,0,65535,oS 21 (.pick (tm 10) (tm 20) (.const (.bool false))),none⟩,⟨17,0,131071,oS 4 (.mv (tm 21)),none⟩]) (
 .ret))⟩
def f92 : IFn:=⟨25,[.tmp 4],.seq (.region 1 [oS 2 (.box 24 (tm 0)),oS 4 (.mv (ci 0))]) ( .seq (.region 0 [oS 5 (.mv (ci 0))]) ( .seq (.seq (.region 0 [oS 6 (.mv (ci 0))]) ( .block 0 ( .loop ( .seq (.seq (.region 0
 [oS 7 (.mv (tm 6)),oS 8 (.mv (tm 1)),oS 9 (.ln (tm 8)),oS 10 (.bin .lss (tm 7) (tm 9))]) ( .cond (tm 10) ( .skip) ( .exit 0))) ( .seq (.block 1 ( .draw 0 [⟨0,0,0,oS 13 (.mv (tm 5)),none⟩,⟨1,0,0,oS 14
 (.load (some 2) (tm 2)),none⟩,⟨2,0,0,oS 15 (.mv (tm 1)),none⟩,⟨3,0,0,oS 16 (.mv (tm 6)),none⟩,⟨4,0,12,oS 17 (.idxA none 1 (tm 15) (tm 16)),none⟩,⟨5,0,28,oS 18 (.load none (tm 17)),none⟩,⟨6,0,0,oS 19
 (.mv (tm 1)),none⟩,⟨7,0,0,oS 20 (.mv (tm 6)),none⟩,⟨8,0,192,oS 21 (.slc 3 1 (tm 19) none (some (tm 20)) none),none⟩,⟨9,0,510,oS 22 (.call (.func 100) [(tm 14),(tm 18),(tm 21)]),none⟩,⟨10,0,1023,oS 23
 (.bin .add (tm 13) (tm 22)),none⟩,⟨11,0,2047,oS 5 (.mv (tm 23)),none⟩])) ( .region 0 [oS 11 (.mv (tm 6)),oS 12 (.bin .add (tm 11) (ci 1)),oS 6 (.mv (tm 12))])))))) ( .seq (.region 0 [oS 24 (.mv (tm
 5)),oS 4 (.mv (tm 24))]) ( .ret))))⟩
def f93 : IFn:=⟨32,[.tmp 4],.seq (.region 0 [oS 4 (.mv (ci 0))]) ( .seq (.region 0 [oS 5 (.mv (ci 0))]) ( .seq (.seq (.region 0 [oS 6 (.mv (ci 0))]) ( .block 0 ( .loop ( .seq (.seq (.region 0 [oS 8 (.mv (tm 6)),oS 9
 (.mv (tm 0)),oS 10 (.ln (tm 9)),oS 11 (.bin .lss (tm 8) (tm 10))]) ( .cond (tm 11) ( .skip) ( .exit 0))) ( .seq (.block 1 ( .seq (.region 0 [oS 14 (.mv (tm 1)),oS 15 (.mv (tm 0)),oS 16 (.mv (tm
 6)),oS 17 (.idxA none 1 (tm 15) (tm 16)),oS 18 (.load none (tm 17)),oS 19 (.call (.func 61) [(tm 14),(tm 18)]),oS 7 (.mv (tm 19))]) ( .seq (.region 0 [oS 20 (.mv (tm 7))]) ( .cond (tm 20) ( .region 0
 [oS 21 (.mv (tm 5)),oS 22 (.bin .add (tm 21) (ci 1)),oS 5 (.mv (tm 22))]) ( .skip))))) ( .region 0 [oS 12 (.mv (tm 6)),oS 13 (.bin .add (tm 12) (ci 1)),oS 6 (.mv (tm 13))])))))) ( .seq (.region 0 [oS
 23 (.mv (tm 5)),oS 24 (.mv (tm 0)),oS 25 (.mv (tm 1)),oS 26 (.call (.func 87) [(tm 24),(tm 25)]),oS 27 (.idxA none 1 (tm 26) (ci 0)),oS 28 (.load none (tm 27)),oS 29 (.idxA none 1 (tm 28) (ci 0)),oS
 30 (.load none (tm 29)),oS 31 (.bin .sub (tm 23) (tm 30)),oS 4 (.mv (tm 31))]) ( .ret))))⟩
def f95 : IFn:=⟨18,[.tmp 2],.seq (.region 0 [oS 2 (.mv (ci 0))]) ( .seq (.region 0 [oS 3 (.mv (ci 0))]) ( .seq (.seq (.region 0 [oS 6 (.mv (tm 0)),oS 7 (.ln (tm 6)),oS 8 (.mv (ci 0))]) ( .block 0 ( .loop ( .seq
 (.region 0 [oS 9 (.bin .lss (tm 8) (tm 7))]) ( .seq (.cond (tm 9) ( .skip) ( .exit 0)) ( .seq (.block 1 ( .seq (.region 0 [oS 10 (.idxA none 1 (tm 6) (tm 8)),oS 11 (.load none (tm 10)),oS 5 (.mv (tm
 11))]) ( .seq (.region 0 [oS 12 (.mv (tm 5)),oS 13 (.mv (tm 3)),oS 14 (.bin .neq (tm 12) (tm 13))]) ( .cond (tm 14) ( .seq (.region 0 [oS 15 (.mv (tm 5)),oS 2 (.mv (tm 15))]) ( .ret)) ( .skip))))) (
 .region 0 [oS 16 (.bin .add (tm 8) (ci 1)),oS 8 (.mv (tm 16))]))))))) ( .seq (.region 0 [oS 17 (.mv (tm 3)),oS 2 (.mv (tm 17))]) ( .ret))))⟩
def f96 : IFn:=⟨20,[.tmp 4],.seq (.region 0 [oS 4 (.mv (ci 0))]) ( .seq (.region 0 [oS 7 (.mv (tm 0)),oS 8 (.call (.func 102) [(tm 7)]),oS 5 (.mv (tm 8))]) ( .seq (.region 0 [oS 9 (.mv (tm 1)),oS 10 (.call (.func
 102) [(tm 9)]),oS 6 (.mv (tm 10))]) ( .seq (.seq (.region 0 [oS 11 (.mv (tm 5))]) ( .cond (tm 11) ( .seq (.seq (.region 0 [oS 12 (.mv (tm 6))]) ( .cond (tm 12) ( .seq (.region 0 [oS 4 (.mv (ci 0))])
 ( .ret)) ( .skip))) ( .seq (.region 0 [oS 4 (.mv (.const (.int .i64 (-1))))]) ( .ret))) ( .skip))) ( .seq (.seq (.region 0 [oS 13 (.mv (tm 6))]) ( .cond (tm 13) ( .seq (.region 0 [oS 4 (.mv (ci 1))])
 ( .ret)) ( .skip))) ( .seq (.seq (.region 0 [oS 14 (.mv (tm 0)),oS 15 (.mv (tm 1)),oS 16 (.bin .lss (tm 14) (tm 15))]) ( .cond (tm 16) ( .seq (.region 0 [oS 4 (.mv (.const (.int .i64 (-1))))]) (
 .ret)) ( .skip))) ( .seq (.seq (.region 0 [oS 17 (.mv (tm 0)),oS 18 (.mv (tm 1)),oS 19 (.bin .gtr (tm 17) (tm 18))]) ( .cond (tm 19) ( .seq (.region 0 [oS 4 (.mv (ci 1))]) ( .ret)) ( .skip))) ( .seq
 (.region 0 [oS 4 (.mv (ci 0))]) ( .ret))))))))⟩
def f97 : IFn:=⟨14,[],.seq (.region 0 [oS 5 (.mv (tm 0)),oS 6 (.ln (tm 5)),oS 4 (.mv (tm 6))]) ( .region 0 [oS 7 (.mv (tm 0)),oS 8 (.mv (tm 4)),oS 9 (.mv (tm 4)),oS 10 (.conv .u64 (tm 9)),oS 11 (.call (.func 104)
 [(tm 10)]),oS 12 (.mv (tm 1)),oS 13 (.call (.func 103) [(tm 7),(ci 0),(tm 8),(tm 11),(tm 12)])])⟩
def f98 : IFn:=⟨22,[.tmp 8],.seq (.region 0 [oS 8 (.mv (.const (.bool false)))]) ( .seq (.region 0 [oS 9 (.mv (tm 0)),oS 10 (.mv (tm 2)),oS 11 (.bin .lss (tm 9) (tm 10)),oS 12 (.mv (tm 11)),oG 13 (.mv (tm 0)) 12
 false,oG 14 (.mv (tm 2)) 12 false,oG 15 (.bin .eql (tm 13) (tm 14)) 12 false,oG 16 (.mv (tm 15)) 12 false,oG 17 (.mv (tm 1)) 16 true,oG 18 (.mv (tm 3)) 16 true,oG 19 (.bin .lss (tm 17) (tm 18)) 16
 true,oG 20 (.pick (tm 16) (tm 19) (.const (.bool false))) 12 false,oS 21 (.pick (tm 12) (.const (.bool true)) (tm 20)),oS 8 (.mv (tm 21))]) ( .ret))⟩
def f99 : IFn:=⟨41,[.tmp 4],.seq (.region 1 [oS 2 (.box 24 (tm 0)),oS 4 (.mv (.const (.slice none 0 0)))]) ( .seq (.region 0 [oS 9 (.mv (tm 1)),oS 10 (.call (.func 105) [(tm 9)]),oS 5 (.mv (tm 10))]) ( .seq (.region
 0 [oS 6 (.mv (.const (.slice none 0 0)))]) ( .seq (.seq (.region 0 [oS 11 (.fldA 1 (tm 2)),oS 12 (.load none (tm 11)),oS 13 (.ln (tm 12)),oS 14 (.mv (ci 0))]) ( .block 0 ( .loop ( .seq (.region 0 [oS
 15 (.bin .lss (tm 14) (tm 13))]) ( .seq (.cond (tm 15) ( .skip) ( .exit 0)) ( .seq (.block 1 ( .seq (.region 1 [oS 16 (.idxA none 4 (tm 12) (tm 14)),oS 17 (.load (some 4) (tm 16)),oS 8 (.alloc 86
 [(.int .i64 0),(.int .i64 0),(.int .i64 0),(.int .i64 0)]),oN (.store 4 (tm 8) (tm 17))]) ( .seq (.draw 0 [⟨0,0,0,oS 18 (.mv (tm 5)),none⟩,⟨1,0,0,oS 19 (.fldA 0 (tm 8)),none⟩,⟨2,0,2,oS 20 (.load none
 (tm 19)),none⟩,⟨3,0,7,oS 21 (.idxA none 1 (tm 18) (tm 20)),none⟩,⟨4,0,15,oS 22 (.load none (tm 21)),none⟩,⟨5,0,0,oS 23 (.mv (tm 5)),none⟩,⟨6,0,0,oS 24 (.fldA 1 (tm 8)),none⟩,⟨7,0,64,oS 25 (.load none
 (tm 24)),none⟩,⟨8,0,224,oS 26 (.idxA none 1 (tm 23) (tm 25)),none⟩,⟨9,0,480,oS 27 (.load none (tm 26)),none⟩,⟨10,0,1023,oS 28 (.bin .gtr (tm 22) (tm 27)),none⟩]) ( .cond (tm 28) ( .region 2 [oS 29
 (.mv (tm 6)),oS 30 (.fldA 0 (tm 8)),oS 31 (.load none (tm 30)),oS 32 (.fldA 1 (tm 8)),oS 33 (.load none (tm 32)),oS 34 (.fldA 3 (tm 8)),oS 35 (.load none (tm 34)),oS 36 (.build [(.int .i64 0),(.int
 .i64 0),(.int .i64 0)] [(0,1,(tm 31)),(1,1,(tm 33)),(2,1,(tm 35))]),oS 37 (.bslice 156 3 [(.int .i64 0),(.int .i64 0),(.int .i64 0)] 1 [(0,3,(tm 36))]),oS 38 (.app 156 3 24 [(.int .i64 0),(.int .i64
 0),(.int .i64 0)] (tm 29) (tm 37)),oS 6 (.mv (tm 38))]) ( .skip))))) ( .region 0 [oS 39 (.bin .add (tm 14) (ci 1)),oS 14 (.mv (tm 39))]))))))) ( .seq (.region 0 [oS 40 (.mv (tm 6)),oS 4 (.mv (tm
 40))]) ( .ret)))))⟩
def f100 : IFn:=⟨25,[.tmp 6],.seq (.region 1 [oS 3 (.box 24 (tm 0)),oS 6 (.mv (ci 0))]) ( .seq (.region 0 [oS 7 (.mv (ci 0))]) ( .seq (.seq (.region 0 [oS 8 (.mv (ci 0))]) ( .block 0 ( .loop ( .seq (.seq (.region 0
 [oS 9 (.mv (tm 8)),oS 10 (.mv (tm 2)),oS 11 (.ln (tm 10)),oS 12 (.bin .lss (tm 9) (tm 11))]) ( .cond (tm 12) ( .skip) ( .exit 0))) ( .seq (.block 1 ( .draw 0 [⟨0,0,0,oS 15 (.mv (tm
 7)),none⟩,⟨1,0,0,oS 16 (.load (some 2) (tm 3)),none⟩,⟨2,0,0,oS 17 (.mv (tm 1)),none⟩,⟨3,0,0,oS 18 (.mv (tm 2)),none⟩,⟨4,0,0,oS 19 (.mv (tm 8)),none⟩,⟨5,0,24,oS 20 (.idxA none 1 (tm 18) (tm
 19)),none⟩,⟨6,0,56,oS 21 (.load none (tm 20)),none⟩,⟨7,0,126,oS 22 (.call (.func 106) [(tm 16),(tm 17),(tm 21)]),none⟩,⟨8,0,255,oS 23 (.bin .add (tm 15) (tm 22)),none⟩,⟨9,0,511,oS 7 (.mv (tm
 23)),none⟩])) ( .region 0 [oS 13 (.mv (tm 8)),oS 14 (.bin .add (tm 13) (ci 1)),oS 8 (.mv (tm 14))])))))) ( .seq (.region 0 [oS 24 (.mv (tm 7)),oS 6 (.mv (tm 24))]) ( .ret))))⟩
def f102 : IFn:=⟨6,[.tmp 2],.seq (.region 0 [oS 2 (.mv (.const (.bool false)))]) ( .seq (.region 0 [oS 3 (.mv (tm 0)),oS 4 (.mv (tm 0)),oS 5 (.bin .neq (tm 3) (tm 4)),oS 2 (.mv (tm 5))]) ( .ret))⟩
def f105 : IFn:=⟨22,[.tmp 2],.seq (.region 0 [oS 2 (.mv (.const (.slice none 0 0)))]) ( .seq (.region 1 [oS 6 (.mv (tm 0)),oS 7 (.ln (tm 6)),oS 8 (.mksl 3 1 8 [(.int .i64 0)] (tm 7) (tm 7)),oS 3 (.mv (tm 8))]) ( .seq
 (.seq (.region 0 [oS 9 (.mv (tm 0)),oS 10 (.ln (tm 9)),oS 11 (.mv (ci 0))]) ( .block 0 ( .loop ( .seq (.region 0 [oS 12 (.bin .lss (tm 11) (tm 10))]) ( .seq (.cond (tm 12) ( .skip) ( .exit 0)) ( .seq
 (.block 1 ( .seq (.region 0 [oS 13 (.mv (tm 11)),oS 14 (.idxA none 1 (tm 9) (tm 11)),oS 15 (.load none (tm 14)),oS 4 (.mv (tm 13)),oS 5 (.mv (tm 15))]) ( .region 0 [oS 16 (.mv (tm 3)),oS 17 (.mv (tm
 5)),oS 18 (.mv (tm 4)),oS 19 (.idxA none 1 (tm 16) (tm 17)),oN (.store 1 (tm 19) (tm 18))]))) ( .region 0 [oS 20 (.bin .add (tm 11) (ci 1)),oS 11 (.mv (tm 20))]))))))) ( .seq (.region 0 [oS 21 (.mv
 (tm 3)),oS 2 (.mv (tm 21))]) ( .ret))))⟩
def f106 : IFn:=⟨39,[.tmp 6],.seq (.region 1 [oS 3 (.box 24 (tm 0)),oS 6 (.mv (ci 0))]) ( .seq (.seq (.region 0 [oS 7 (.mv (ci 0))]) ( .block 0 ( .loop ( .seq (.seq (.region 0 [oS 8 (.mv (tm 7)),oS 9 (.fldA 1 (tm
 3)),oS 10 (.load none (tm 9)),oS 11 (.ln (tm 10)),oS 12 (.bin .lss (tm 8) (tm 11))]) ( .cond (tm 12) ( .skip) ( .exit 0))) ( .seq (.block 1 ( .seq (.region 0 [oS 15 (.fldA 1 (tm 3)),oS 16 (.load none
 (tm 15)),oS 17 (.mv (tm 7)),oS 18 (.idxA none 4 (tm 16) (tm 17)),oS 19 (.fldA 0 (tm 18)),oS 20 (.load none (tm 19)),oS 21 (.mv (tm 1)),oS 22 (.bin .eql (tm 20) (tm 21)),oS 23 (.mv (tm 22)),oG 24
 (.fldA 1 (tm 3)) 23 true,oG 25 (.load none (tm 24)) 23 true,oG 26 (.mv (tm 7)) 23 true,oG 27 (.idxA none 4 (tm 25) (tm 26)) 23 true,oG 28 (.fldA 1 (tm 27)) 23 true,oG 29 (.load none (tm 28)) 23
 true,oG 30 (.mv (tm 2)) 23 true,oG 31 (.bin .eql (tm 29) (tm 30)) 23 true,oS 32 (.pick (tm 23) (tm 31) (.const (.bool false)))]) ( .cond (tm 32) ( .seq (.region 0 [oS 33 (.fldA 1 (tm 3)),oS 34 (.load
 none (tm 33)),oS 35 (.mv (tm 7)),oS 36 (.idxA none 4 (tm 34) (tm 35)),oS 37 (.fldA 3 (tm 36)),oS 38 (.load none (tm 37)),oS 6 (.mv (tm 38))]) ( .ret)) ( .skip)))) ( .region 0 [oS 13 (.mv (tm 7)),oS
 14 (.bin .add (tm 13) (ci 1)),oS 7 (.mv (tm 14))])))))) ( .seq (.region 0 [oS 6 (.mv (ci 0))]) ( .ret)))⟩
end Go.Gx.Z
