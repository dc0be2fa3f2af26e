/-
  Functions of this seat, as the abstract machine runs them (printed by a program of mine), part 2.
-/
import Derived.Test.YtamljcdnphjgaaaGe
set_option linter.all false
set_option linter.deprecated false
set_option linter.unusedSimpArgs false
set_option linter.unusedVariables false
namespace Go.Gx.A
open Go.Gx
def f94 : IFn:=⟨15,[.cell 2 (some 2)],.seq (.region 1 [⟨some 2,.alloc 110 [(.int .i64 0),(.int .i64 0)],none⟩]) ( .seq (.region 2 [⟨some 6,.mv (.tmp 0),none⟩,⟨some 7,.call (.func 95) [(.tmp 6)],none⟩,
 ⟨some 5,.mv (.tmp 7),none⟩,⟨some 8,.extr (.tmp 5) 0,none⟩,⟨some 9,.extr (.tmp 5) 1,none⟩,⟨some 3,.alloc 123 [(.int .i64 0),(.int .i64 0)],none⟩,⟨some 4,.alloc 110 [(.int .i64 0),(.int
 .i64 0)],none⟩,⟨none,.store 2 (.tmp 3) (.tmp 8),none⟩,⟨none,.store 2 (.tmp 4) (.tmp 9),none⟩]) ( .seq (.draw 0 [⟨0,0,0,⟨some 10,.load (some 2) (.tmp 4),none⟩,none⟩,⟨1,0,0,⟨some 11,
 .mv (.tmp 0),none⟩,none⟩,⟨2,0,0,⟨some 12,.load (some 2) (.tmp 3),none⟩,none⟩,⟨3,0,6,⟨some 13,.call (.func 142) [(.tmp 11),(.tmp 12)],none⟩,none⟩,⟨4,0,15,⟨some 14,.call (.func
 99) [(.tmp 10),(.tmp 13)],none⟩,none⟩,⟨5,0,31,⟨none,.store 2 (.tmp 2) (.tmp 14),none⟩,none⟩]) ( .ret)))⟩
def f95 : IFn:=⟨16,[.cell 2 (some 2),.cell 3 (some 2)],.seq (.region 2 [⟨some 2,.alloc 123 [(.int .i64 0),(.int .i64 0)],none⟩,⟨some 3,.alloc 110 [(.int .i64 0),(.int .i64 0)],none⟩]) ( .seq (.draw 0 [⟨0,
 0,0,⟨some 4,.mv (.tmp 0),none⟩,none⟩,⟨1,0,1,⟨some 5,.nilc (.tmp 4),none⟩,none⟩,⟨2,0,3,⟨some 6,.fldA 0 (.tmp 5),none⟩,none⟩,⟨3,0,7,⟨some 7,.fldA 3 (.tmp 6),none⟩,none⟩,⟨4,
 0,15,⟨some 8,.load none (.tmp 7),none⟩,none⟩,⟨5,0,31,⟨some 9,.bin .sub (.tmp 8) (.const (.int .i64 1)),none⟩,none⟩,⟨6,0,63,⟨some 10,.build [(.int .i64 0),(.int .i64 0)] [(0,1,
 (.const (.int .i64 0))),(1,1,(.tmp 9))],none⟩,none⟩,⟨7,0,0,⟨some 11,.mv (.tmp 0),none⟩,none⟩,⟨8,0,128,⟨some 12,.nilc (.tmp 11),none⟩,none⟩,⟨9,0,384,⟨some 13,.fldA 7 (.tmp 12),
 none⟩,none⟩,⟨10,0,896,⟨some 14,.load none (.tmp 13),none⟩,none⟩,⟨11,0,1920,⟨some 15,.build [(.int .i64 0),(.int .i64 0)] [(0,1,(.tmp 14)),(1,1,(.const (.int .i64 0)))],none⟩,
 none⟩,⟨12,0,127,⟨none,.store 2 (.tmp 2) (.tmp 10),none⟩,none⟩,⟨13,0,8191,⟨none,.store 2 (.tmp 3) (.tmp 15),none⟩,none⟩]) ( .ret))⟩
def f96 : IFn:=⟨10,[.tmp 2],.seq (.region 0 [⟨some 2,.mv (.const (.int .i64 0)),none⟩]) ( .seq (.region 0 [⟨some 3,.mv (.tmp 0),none⟩,⟨some 4,.nilc (.tmp 3),none⟩,⟨some 5,.fldA 4 (.tmp 4),none⟩,⟨some 6,
 .load none (.tmp 5),none⟩,⟨some 7,.ln (.tmp 6),none⟩,⟨some 8,.bin .shl (.const (.int .i64 1)) (.tmp 7),none⟩,⟨some 9,.bin .sub (.tmp 8) (.const (.int .i64 1)),none⟩,⟨some 2,.mv (.tmp 9),
 none⟩]) ( .ret))⟩
def f97 : IFn:=⟨24,[.tmp 4],.seq (.region 2 [⟨some 2,.box 110 (.tmp 0),none⟩,⟨some 3,.box 110 (.tmp 1),none⟩,⟨some 4,.mv (.const (.bool false)),none⟩]) ( .seq (.region 0 [⟨some 5,.idxA (some 2) 1 (.tmp 2)
 (.const (.int .i64 0)),none⟩,⟨some 6,.load none (.tmp 5),none⟩,⟨some 7,.idxA (some 2) 1 (.tmp 3) (.const (.int .i64 0)),none⟩,⟨some 8,.load none (.tmp 7),none⟩,⟨some 9,.bin .lss (.tmp 6)
 (.tmp 8),none⟩,⟨some 10,.mv (.tmp 9),none⟩,⟨some 11,.idxA (some 2) 1 (.tmp 2) (.const (.int .i64 0)),(some (10,false))⟩,⟨some 12,.load none (.tmp 11),(some (10,false))⟩,⟨some 13,.idxA
 (some 2) 1 (.tmp 3) (.const (.int .i64 0)),(some (10,false))⟩,⟨some 14,.load none (.tmp 13),(some (10,false))⟩,⟨some 15,.bin .eql (.tmp 12) (.tmp 14),(some (10,false))⟩,⟨some 16,.mv (.tmp
 15),(some (10,false))⟩,⟨some 17,.idxA (some 2) 1 (.tmp 2) (.const (.int .i64 1)),(some (16,true))⟩,⟨some 18,.load none (.tmp 17),(some (16,true))⟩,⟨some 19,.idxA (some 2) 1 (.tmp 3)
 (.const (.int .i64 1)),(some (16,true))⟩,⟨some 20,.load none (.tmp 19),(some (16,true))⟩,⟨some 21,.bin .lss (.tmp 18) (.tmp 20),(some (16,true))⟩,⟨some 22,.pick (.tmp 16) (.tmp 21)
 (.const (.bool false)),(some (10,false))⟩,⟨some 23,.pick (.tmp 10) (.const (.bool true)) (.tmp 22),none⟩,⟨some 4,.mv (.tmp 23),none⟩]) ( .ret))⟩
def f98 : IFn:=⟨6,[.tmp 4],.seq (.region 2 [⟨some 2,.box 119 (.tmp 0),none⟩,⟨some 3,.box 123 (.tmp 1),none⟩,⟨some 4,.mv (.const .nilFunc),none⟩]) ( .seq (.region 0 [⟨some 5,.mkfn (.func 143) [] [(.tmp 2),
 (.tmp 3)],none⟩,⟨some 4,.mv (.tmp 5),none⟩]) ( .ret))⟩
def f99 : IFn:=⟨16,[.cell 4 (some 2)],.seq (.region 3 [⟨some 2,.box 110 (.tmp 0),none⟩,⟨some 3,.box 110 (.tmp 1),none⟩,⟨some 4,.alloc 110 [(.int .i64 0),(.int .i64 0)],none⟩]) ( .seq (.region 0 [⟨some 5,
 .idxA (some 2) 1 (.tmp 2) (.const (.int .i64 0)),none⟩,⟨some 6,.load none (.tmp 5),none⟩,⟨some 7,.idxA (some 2) 1 (.tmp 3) (.const (.int .i64 0)),none⟩,⟨some 8,.load none (.tmp 7),none⟩,
 ⟨some 9,.bin .add (.tmp 6) (.tmp 8),none⟩,⟨some 10,.idxA (some 2) 1 (.tmp 2) (.const (.int .i64 1)),none⟩,⟨some 11,.load none (.tmp 10),none⟩,⟨some 12,.idxA (some 2) 1 (.tmp 3) (.const
 (.int .i64 1)),none⟩,⟨some 13,.load none (.tmp 12),none⟩,⟨some 14,.bin .add (.tmp 11) (.tmp 13),none⟩,⟨some 15,.build [(.int .i64 0),(.int .i64 0)] [(0,1,(.tmp 9)),(1,1,(.tmp 14))],
 none⟩,⟨none,.store 2 (.tmp 4) (.tmp 15),none⟩]) ( .ret))⟩
def f103 : IFn:=⟨26,[.tmp 4],.seq (.region 0 [⟨some 4,.mv (.const (.int .i64 0)),none⟩]) ( .seq (.region 0 [⟨some 5,.mv (.const (.int .i64 0)),none⟩]) ( .seq (.seq (.region 0 [⟨some 8,.mv (.tmp 0),none⟩,
 ⟨some 9,.ln (.tmp 8),none⟩,⟨some 10,.mv (.const (.int .i64 0)),none⟩]) ( .block 0 ( .loop ( .seq (.region 0 [⟨some 11,.bin .lss (.tmp 10) (.tmp 9),none⟩]) ( .seq (.cond (.tmp 11) ( .skip) (
 .exit 0)) ( .seq (.block 1 ( .seq (.region 0 [⟨some 12,.idxA none 1 (.tmp 8) (.tmp 10),none⟩,⟨some 13,.load none (.tmp 12),none⟩,⟨some 7,.mv (.tmp 13),none⟩]) ( .seq (.region 0 [⟨some 14,.mv
 (.tmp 1),none⟩,⟨some 15,.mv (.tmp 7),none⟩,⟨some 16,.call (.func 74) [(.tmp 14),(.tmp 15)],none⟩]) ( .cond (.tmp 16) ( .region 0 [⟨some 17,.mv (.tmp 5),none⟩,⟨some 18,.bin .add (.tmp 17)
 (.const (.int .i64 1)),none⟩,⟨some 5,.mv (.tmp 18),none⟩]) ( .skip))))) ( .region 0 [⟨some 19,.bin .add (.tmp 10) (.const (.int .i64 1)),none⟩,⟨some 10,.mv (.tmp 19),none⟩]))))))) ( .seq
 (.region 0 [⟨some 20,.mv (.tmp 5),none⟩,⟨some 21,.mv (.tmp 0),none⟩,⟨some 22,.mv (.tmp 1),none⟩,⟨some 23,.call (.func 77) [(.tmp 21),(.tmp 22)],none⟩,⟨some 24,.ln (.tmp 23),none⟩,
 ⟨some 25,.bin .sub (.tmp 20) (.tmp 24),none⟩,⟨some 4,.mv (.tmp 25),none⟩]) ( .ret))))⟩
def f115 : IFn:=⟨19,[.tmp 2],.seq (.region 0 [⟨some 2,.mv (.const (.bool false)),none⟩]) ( .seq (.region 1 [⟨some 6,.mkmap,none⟩,⟨some 3,.mv (.tmp 6),none⟩]) ( .seq (.seq (.region 0 [⟨some 7,.mv (.tmp 0),
 none⟩,⟨some 8,.ln (.tmp 7),none⟩,⟨some 9,.mv (.const (.int .i64 0)),none⟩]) ( .block 0 ( .loop ( .seq (.region 0 [⟨some 10,.bin .lss (.tmp 9) (.tmp 8),none⟩]) ( .seq (.cond (.tmp 10) ( .skip)
 ( .exit 0)) ( .seq (.block 1 ( .seq (.region 0 [⟨some 11,.idxA none 1 (.tmp 7) (.tmp 9),none⟩,⟨some 12,.load none (.tmp 11),none⟩,⟨some 5,.mv (.tmp 12),none⟩]) ( .seq (.seq (.region 0 [⟨some
 13,.mv (.tmp 3),none⟩,⟨some 14,.mv (.tmp 5),none⟩,⟨some 15,.look [(.int .i64)] false (.bool false) false (.tmp 13) (.tmp 14),none⟩]) ( .cond (.tmp 15) ( .seq (.region 0 [⟨some 2,.mv (.const
 (.bool true)),none⟩]) ( .ret)) ( .skip))) ( .region 0 [⟨some 16,.mv (.tmp 3),none⟩,⟨some 17,.mv (.tmp 5),none⟩,⟨none,.mset [(.int .i64)] false (.tmp 16) (.tmp 17) (.const (.bool true)),
 none⟩])))) ( .region 0 [⟨some 18,.bin .add (.tmp 9) (.const (.int .i64 1)),none⟩,⟨some 9,.mv (.tmp 18),none⟩]))))))) ( .seq (.region 0 [⟨some 2,.mv (.const (.bool false)),none⟩]) ( .ret))))⟩
def f118 : IFn:=⟨4,[.tmp 2],.seq (.region 1 [⟨some 1,.box 119 (.tmp 0),none⟩,⟨some 2,.mv (.const .nilFunc),none⟩]) ( .seq (.region 0 [⟨some 3,.mkfn (.func 147) [] [(.tmp 1)],none⟩,⟨some 2,.mv (.tmp 3),
 none⟩]) ( .ret))⟩
def f121 : IFn:=⟨18,[.tmp 2],.seq (.region 0 [⟨some 2,.mv (.const (.int .i64 0)),none⟩]) ( .seq (.region 0 [⟨some 3,.mv (.const (.int .i64 0)),none⟩]) ( .seq (.seq (.region 0 [⟨some 6,.mv (.tmp 0),none⟩,
 ⟨some 7,.ln (.tmp 6),none⟩,⟨some 8,.mv (.const (.int .i64 0)),none⟩]) ( .block 0 ( .loop ( .seq (.region 0 [⟨some 9,.bin .lss (.tmp 8) (.tmp 7),none⟩]) ( .seq (.cond (.tmp 9) ( .skip) ( .exit
 0)) ( .seq (.block 1 ( .seq (.region 0 [⟨some 10,.idxA none 1 (.tmp 6) (.tmp 8),none⟩,⟨some 11,.load none (.tmp 10),none⟩,⟨some 5,.mv (.tmp 11),none⟩]) ( .seq (.region 0 [⟨some 12,.mv (.tmp
 5),none⟩,⟨some 13,.mv (.tmp 3),none⟩,⟨some 14,.bin .neq (.tmp 12) (.tmp 13),none⟩]) ( .cond (.tmp 14) ( .seq (.region 0 [⟨some 15,.mv (.tmp 5),none⟩,⟨some 2,.mv (.tmp 15),none⟩]) ( .ret))
 ( .skip))))) ( .region 0 [⟨some 16,.bin .add (.tmp 8) (.const (.int .i64 1)),none⟩,⟨some 8,.mv (.tmp 16),none⟩]))))))) ( .seq (.region 0 [⟨some 17,.mv (.tmp 3),none⟩,⟨some 2,.mv (.tmp 17),
 none⟩]) ( .ret))))⟩
def f122 : IFn:=⟨20,[.tmp 4],.seq (.region 0 [⟨some 4,.mv (.const (.int .i64 0)),none⟩]) ( .seq (.region 0 [⟨some 7,.mv (.tmp 0),none⟩,⟨some 8,.call (.func 151) [(.tmp 7)],none⟩,⟨some 5,.mv (.tmp 8),
 none⟩]) ( .seq (.region 0 [⟨some 9,.mv (.tmp 1),none⟩,⟨some 10,.call (.func 151) [(.tmp 9)],none⟩,⟨some 6,.mv (.tmp 10),none⟩]) ( .seq (.seq (.region 0 [⟨some 11,.mv (.tmp 5),none⟩]) (
 .cond (.tmp 11) ( .seq (.seq (.region 0 [⟨some 12,.mv (.tmp 6),none⟩]) ( .cond (.tmp 12) ( .seq (.region 0 [⟨some 4,.mv (.const (.int .i64 0)),none⟩]) ( .ret)) ( .skip))) ( .seq (.region 0 [⟨some
 4,.mv (.const (.int .i64 (-1))),none⟩]) ( .ret))) ( .skip))) ( .seq (.seq (.region 0 [⟨some 13,.mv (.tmp 6),none⟩]) ( .cond (.tmp 13) ( .seq (.region 0 [⟨some 4,.mv (.const (.int .i64 1)),
 none⟩]) ( .ret)) ( .skip))) ( .seq (.seq (.region 0 [⟨some 14,.mv (.tmp 0),none⟩,⟨some 15,.mv (.tmp 1),none⟩,⟨some 16,.bin .lss (.tmp 14) (.tmp 15),none⟩]) ( .cond (.tmp 16) ( .seq (.region 0
 [⟨some 4,.mv (.const (.int .i64 (-1))),none⟩]) ( .ret)) ( .skip))) ( .seq (.seq (.region 0 [⟨some 17,.mv (.tmp 0),none⟩,⟨some 18,.mv (.tmp 1),none⟩,⟨some 19,.bin .gtr (.tmp 17) (.tmp 18),
 none⟩]) ( .cond (.tmp 19) ( .seq (.region 0 [⟨some 4,.mv (.const (.int .i64 1)),none⟩]) ( .ret)) ( .skip))) ( .seq (.region 0 [⟨some 4,.mv (.const (.int .i64 0)),none⟩]) ( .ret))))))))⟩
def f127 : IFn:=⟨4,[],.seq (.region 0 [⟨some 2,.load none (.tmp 0),none⟩,⟨some 3,.bin .neq (.tmp 2) (.const (.int .i64 0)),none⟩]) ( .cond (.tmp 3) ( .region 0 [⟨none,.store 1 (.tmp 1) (.const (.slice none 0
 0)),none⟩]) ( .skip))⟩
def f128 : IFn:=⟨14,[],.seq (.region 0 [⟨some 5,.recover,none⟩]) ( .block 0 ( .seq (.region 0 [⟨some 7,.eqn .iface false (.tmp 5) (.const .nilIface),none⟩]) ( .cond (.tmp 7) ( .region 0 [⟨some 2,.mv (.tmp 5),
 none⟩]) ( .seq (.region 0 [⟨some 8,.tassert 204 (.int .i64 0) true (.tmp 5),none⟩,⟨some 9,.extr (.tmp 8) 1,none⟩,⟨some 10,.extr (.tmp 8) 0,none⟩]) ( .cond (.tmp 9) ( .seq (.region 0 [⟨some 3,
 .mv (.tmp 10),none⟩]) ( .region 0 [⟨some 11,.mv (.tmp 0),none⟩,⟨some 12,.mv (.tmp 3),none⟩,⟨some 13,.nilc (.tmp 11),none⟩,⟨none,.store 1 (.tmp 13) (.tmp 12),none⟩])) ( .seq (.region 0
 [⟨some 4,.mv (.tmp 5),none⟩]) ( .region 0 [⟨some 6,.mv (.tmp 4),none⟩,⟨none,.panic (.tmp 6),none⟩])))))))⟩
def f129 : IFn:=⟨28,[.tmp 8],.seq (.region 1 [⟨some 4,.box 24 (.tmp 0),none⟩,⟨some 8,.mv (.const (.pointer none)),none⟩]) ( .seq (.region 0 [⟨some 9,.load (some 2) (.tmp 4),none⟩,⟨some 10,.call (.func 69)
 [(.tmp 9)],none⟩,⟨some 11,.call (.func 155) [(.tmp 10)],none⟩]) ( .seq (.region 0 [⟨some 12,.fldA 0 (.tmp 4),none⟩,⟨some 13,.load none (.tmp 12),none⟩,⟨some 14,.mv (.tmp 1),none⟩,⟨some
 15,.call (.func 84) [(.tmp 13),(.tmp 14)],none⟩,⟨some 16,.bin .eql (.tmp 15) (.const (.int .i64 0)),none⟩,⟨some 17,.call (.func 156) [(.tmp 16),(.const (.int .i64 1))],none⟩]) ( .seq
 (.region 0 [⟨some 18,.mv (.tmp 2),none⟩,⟨some 19,.ln (.tmp 18),none⟩,⟨some 20,.bin .leq (.tmp 19) (.const (.int .i64 200)),none⟩,⟨some 21,.call (.func 156) [(.tmp 20),(.const (.int .i64
 2))],none⟩]) ( .seq (.draw 1 [⟨0,0,0,⟨some 22,.load (some 2) (.tmp 4),none⟩,none⟩,⟨1,0,0,⟨some 23,.mv (.tmp 1),none⟩,none⟩,⟨3,0,0,⟨some 25,.mv (.tmp 3),none⟩,none⟩,⟨2,0,2,
 ⟨some 24,.call (.func 73) [(.tmp 23)],none⟩,none⟩,⟨4,0,15,⟨some 26,.build [(.int .i64 0),(.slice none 0 0),(.slice none 0 0),(.int .i64 0),.nilFunc] [(0,2,(.tmp 22)),(2,1,(.tmp 24)),
 (4,1,(.tmp 25))],none⟩,none⟩,⟨5,0,31,⟨some 27,.box 179 (.tmp 26),none⟩,none⟩,⟨6,1,63,⟨some 8,.mv (.tmp 27),none⟩,none⟩]) ( .ret)))))⟩
def f130 : IFn:=⟨11,[.tmp 2],.seq (.region 1 [⟨some 1,.box 27 (.tmp 0),none⟩,⟨some 2,.mv (.const (.slice none 0 0)),none⟩]) ( .seq (.seq (.region 0 [⟨some 3,.fldA 3 (.tmp 1),none⟩,⟨some 4,.load none (.tmp
 3),none⟩,⟨some 5,.bin .lss (.tmp 4) (.const (.int .i64 0)),none⟩]) ( .cond (.tmp 5) ( .seq (.region 0 [⟨some 6,.fldA 2 (.tmp 1),none⟩,⟨some 7,.load none (.tmp 6),none⟩,⟨some 2,.mv (.tmp
 7),none⟩]) ( .ret)) ( .skip))) ( .seq (.region 0 [⟨some 8,.load (some 4) (.tmp 1),none⟩,⟨some 9,.call (.func 91) [(.tmp 8)],none⟩,⟨some 10,.fld none 0 (.tmp 9),none⟩,⟨some 2,.mv (.tmp 10),
 none⟩]) ( .ret)))⟩
def f131 : IFn:=⟨26,[],.seq (.region 1 [⟨some 3,.box 89 (.tmp 1),none⟩]) ( .seq (.region 1 [⟨some 6,.mkmap,none⟩,⟨some 7,.mv (.tmp 0),none⟩,⟨some 8,.mkfn (.func 157) [(.tmp 7)] [],none⟩,⟨none,.mset
 [(.int .u8)] false (.tmp 6) (.const (.int .u8 1)) (.tmp 8),none⟩,⟨some 9,.mv (.tmp 0),none⟩,⟨some 10,.mkfn (.func 158) [(.tmp 9)] [],none⟩,⟨none,.mset [(.int .u8)] false (.tmp 6) (.const
 (.int .u8 2)) (.tmp 10),none⟩,⟨some 11,.mv (.tmp 0),none⟩,⟨some 12,.mkfn (.func 159) [(.tmp 11)] [],none⟩,⟨none,.mset [(.int .u8)] false (.tmp 6) (.const (.int .u8 3)) (.tmp 12),none⟩,
 ⟨some 13,.mv (.tmp 0),none⟩,⟨some 14,.mkfn (.func 160) [(.tmp 13)] [],none⟩,⟨none,.mset [(.int .u8)] false (.tmp 6) (.const (.int .u8 4)) (.tmp 14),none⟩,⟨some 15,.mv (.tmp 6),none⟩,⟨some
 4,.mv (.tmp 15),none⟩]) ( .seq (.region 0 [⟨some 16,.mv (.tmp 4),none⟩,⟨some 17,.fldA 0 (.tmp 3),none⟩,⟨some 18,.load none (.tmp 17),none⟩,⟨some 19,.look [(.int .u8)] false .nilFunc false
 (.tmp 16) (.tmp 18),none⟩,⟨some 5,.mv (.tmp 19),none⟩]) ( .seq (.region 0 [⟨some 20,.mv (.tmp 5),none⟩,⟨some 21,.eqn .func true (.tmp 20) (.const .nilFunc),none⟩,⟨some 22,.call (.func 156)
 [(.tmp 21),(.const (.int .i64 1))],none⟩]) ( .region 0 [⟨some 23,.mv (.tmp 5),none⟩,⟨some 24,.load (some 4) (.tmp 3),none⟩,⟨some 25,.call (.tmp 23) [(.tmp 24)],none⟩]))))⟩
def f132 : IFn:=⟨7,[],.region 0 [⟨some 2,.load none (.tmp 0),none⟩,⟨some 3,.mv (.tmp 2),none⟩,⟨some 4,.load none (.tmp 1),(some (3,true))⟩,⟨some 5,.bin .eql (.tmp 4) (.const (.int .i64 0)),(some (3,
 true))⟩,⟨some 6,.pick (.tmp 3) (.tmp 5) (.const (.bool false)),none⟩,⟨none,.store 1 (.tmp 0) (.tmp 6),none⟩]⟩
def f133 : IFn:=⟨45,[.tmp 5],.seq (.region 1 [⟨some 4,.box 27 (.tmp 0),none⟩,⟨some 5,.mv (.const (.slice none 0 0)),none⟩]) ( .seq (.region 0 [⟨some 9,.load none (.tmp 1),none⟩,⟨some 10,.load none (.tmp
 2),none⟩,⟨some 11,.idxA none 1 (.tmp 9) (.tmp 10),none⟩,⟨some 12,.load none (.tmp 11),none⟩,⟨some 6,.mv (.tmp 12),none⟩]) ( .seq (.seq (.region 0 [⟨some 13,.fldA 3 (.tmp 4),none⟩,⟨some
 14,.load none (.tmp 13),none⟩,⟨some 15,.bin .lss (.tmp 14) (.const (.int .i64 0)),none⟩]) ( .cond (.tmp 15) ( .seq (.region 0 [⟨some 16,.load none (.tmp 3),none⟩,⟨some 17,.mv (.tmp 16),
 none⟩,⟨some 18,.mv (.tmp 6),(some (17,true))⟩,⟨some 19,.fldA 2 (.tmp 4),(some (17,true))⟩,⟨some 20,.load none (.tmp 19),(some (17,true))⟩,⟨some 21,.call (.func 85) [(.tmp 18),(.tmp
 20)],(some (17,true))⟩,⟨some 22,.pick (.tmp 17) (.tmp 21) (.const (.bool false)),none⟩,⟨none,.store 1 (.tmp 3) (.tmp 22),none⟩]) ( .seq (.region 0 [⟨some 23,.fldA 2 (.tmp 4),none⟩,⟨some
 24,.load none (.tmp 23),none⟩,⟨some 5,.mv (.tmp 24),none⟩]) ( .ret))) ( .skip))) ( .seq (.region 0 [⟨some 26,.load (some 4) (.tmp 4),none⟩,⟨some 27,.mv (.tmp 6),none⟩,⟨some 28,.call
 (.func 29) [(.tmp 26),(.tmp 27)],none⟩,⟨some 25,.mv (.tmp 28),none⟩,⟨some 29,.extr (.tmp 25) 0,none⟩,⟨some 30,.extr (.tmp 25) 1,none⟩,⟨some 7,.mv (.tmp 29),none⟩,⟨some 8,.mv (.tmp
 30),none⟩]) ( .seq (.seq (.draw 0 [⟨0,0,0,⟨some 31,.mv (.tmp 7),none⟩,none⟩,⟨1,0,1,⟨some 32,.un .not (.tmp 31),none⟩,none⟩,⟨2,0,3,⟨some 33,.mv (.tmp 32),none⟩,none⟩,⟨3,0,7,
 ⟨some 34,.load (some 4) (.tmp 4),(some (33,false))⟩,none⟩,⟨4,0,7,⟨some 35,.mv (.tmp 6),(some (33,false))⟩,none⟩,⟨6,0,7,⟨some 37,.load (some 4) (.tmp 4),(some (33,false))⟩,none⟩,
 ⟨5,0,31,⟨some 36,.call (.func 88) [(.tmp 34),(.tmp 35)],(some (33,false))⟩,none⟩,⟨7,0,127,⟨some 38,.call (.func 93) [(.tmp 37)],(some (33,false))⟩,none⟩,⟨8,0,255,⟨some 39,.call
 (.func 94) [(.tmp 38)],(some (33,false))⟩,none⟩,⟨9,0,511,⟨some 40,.eqc true [(.int .i64),(.int .i64)] true (.tmp 36) (.tmp 39),(some (33,false))⟩,none⟩,⟨10,0,1023,⟨some 41,.pick
 (.tmp 33) (.const (.bool true)) (.tmp 40),none⟩,none⟩]) ( .cond (.tmp 41) ( .seq (.region 0 [⟨none,.store 1 (.tmp 3) (.const (.bool false)),none⟩]) ( .seq (.region 0 [⟨some 42,.fldA 2 (.tmp 4),
 none⟩,⟨some 43,.load none (.tmp 42),none⟩,⟨some 5,.mv (.tmp 43),none⟩]) ( .ret))) ( .skip))) ( .seq (.region 0 [⟨some 44,.mv (.tmp 6),none⟩,⟨some 5,.mv (.tmp 44),none⟩]) ( .ret))))))⟩
def f134 : IFn:=⟨15,[.tmp 6],.seq (.region 0 [⟨some 6,.mv (.const (.bool false)),none⟩]) ( .seq (.region 0 [⟨some 7,.mv (.tmp 0),none⟩,⟨some 8,.mv (.tmp 1),none⟩,⟨some 9,.bin .geq (.tmp 7) (.tmp 8),none⟩,
 ⟨some 10,.mv (.tmp 9),none⟩,⟨some 11,.mv (.tmp 0),(some (10,true))⟩,⟨some 12,.mv (.tmp 2),(some (10,true))⟩,⟨some 13,.bin .leq (.tmp 11) (.tmp 12),(some (10,true))⟩,⟨some 14,.pick
 (.tmp 10) (.tmp 13) (.const (.bool false)),none⟩,⟨some 6,.mv (.tmp 14),none⟩]) ( .ret))⟩
def f135 : IFn:=⟨17,[.tmp 4],.seq (.region 2 [⟨some 2,.box 181 (.tmp 0),none⟩,⟨some 3,.box 181 (.tmp 1),none⟩,⟨some 4,.mv (.const (.int .i64 0)),none⟩]) ( .seq (.draw 1 [⟨0,0,0,⟨some 5,.fldA 0 (.tmp 2),
 none⟩,none⟩,⟨1,0,1,⟨some 6,.load none (.tmp 5),none⟩,none⟩,⟨2,0,0,⟨some 7,.fldA 0 (.tmp 3),none⟩,none⟩,⟨3,0,4,⟨some 8,.load none (.tmp 7),none⟩,none⟩,⟨5,0,0,⟨some 10,.fldA
 1 (.tmp 2),none⟩,none⟩,⟨6,0,32,⟨some 11,.load none (.tmp 10),none⟩,none⟩,⟨7,0,0,⟨some 12,.fldA 1 (.tmp 3),none⟩,none⟩,⟨8,0,128,⟨some 13,.load none (.tmp 12),none⟩,none⟩,⟨4,0,
 15,⟨some 9,.call (.func 122) [(.tmp 6),(.tmp 8)],none⟩,none⟩,⟨9,0,511,⟨some 14,.call (.func 122) [(.tmp 11),(.tmp 13)],none⟩,none⟩,⟨10,0,1023,⟨some 15,.bslice 3 1 [(.int .i64 0),
 (.int .i64 0)] 2 [(0,1,(.tmp 9)),(1,1,(.tmp 14))],none⟩,none⟩,⟨11,1,2047,⟨some 16,.call (.func 121) [(.tmp 15)],none⟩,none⟩,⟨12,1,4095,⟨some 4,.mv (.tmp 16),none⟩,none⟩]) (
 .ret))⟩
def f136 : IFn:=⟨58,[],.seq (.region 0 [⟨some 12,.mv (.tmp 0),none⟩,⟨some 11,.mv (.tmp 12),none⟩]) ( .block 0 ( .loop ( .seq (.seq (.region 0 [⟨some 13,.mv (.tmp 11),none⟩,⟨some 14,.load none (.tmp 3),
 none⟩,⟨some 15,.ln (.tmp 14),none⟩,⟨some 16,.bin .lss (.tmp 13) (.tmp 15),none⟩,⟨some 17,.mv (.tmp 16),none⟩,⟨some 18,.mv (.tmp 2),(some (17,true))⟩,⟨some 19,.bin .gtr (.tmp 18)
 (.const (.int .i64 0)),(some (17,true))⟩,⟨some 20,.pick (.tmp 17) (.tmp 19) (.const (.bool false)),none⟩]) ( .cond (.tmp 20) ( .skip) ( .exit 0))) ( .seq (.block 1 ( .seq (.draw 0 [⟨0,0,0,
 ⟨some 23,.load none (.tmp 4),none⟩,none⟩,⟨1,0,0,⟨some 24,.mv (.tmp 11),none⟩,none⟩,⟨2,0,3,⟨some 25,.idxA none 1 (.tmp 23) (.tmp 24),none⟩,none⟩,⟨3,0,7,⟨some 26,.load none (.tmp
 25),none⟩,none⟩,⟨4,0,0,⟨some 27,.mv (.tmp 2),none⟩,none⟩,⟨5,0,31,⟨some 28,.bin .eql (.tmp 26) (.tmp 27),none⟩,none⟩,⟨6,0,63,⟨some 29,.mv (.tmp 28),none⟩,none⟩,⟨7,0,127,
 ⟨some 30,.load none (.tmp 5),(some (29,true))⟩,none⟩,⟨8,0,127,⟨some 31,.load none (.tmp 3),(some (29,true))⟩,none⟩,⟨9,0,127,⟨some 32,.mv (.tmp 11),(some (29,true))⟩,none⟩,⟨10,0,
 895,⟨some 33,.idxA none 1 (.tmp 31) (.tmp 32),(some (29,true))⟩,none⟩,⟨11,0,1919,⟨some 34,.load none (.tmp 33),(some (29,true))⟩,none⟩,⟨12,0,4095,⟨some 35,.look [(.int .i64)] false
 (.int .i64 0) false (.tmp 30) (.tmp 34),(some (29,true))⟩,none⟩,⟨13,0,127,⟨some 36,.mv (.tmp 1),(some (29,true))⟩,none⟩,⟨14,0,16383,⟨some 37,.bin .gtr (.tmp 35) (.tmp 36),(some (29,
 true))⟩,none⟩,⟨15,0,32767,⟨some 38,.pick (.tmp 29) (.tmp 37) (.const (.bool false)),none⟩,none⟩]) ( .cond (.tmp 38) ( .seq (.draw 2 [⟨0,0,0,⟨some 39,.load none (.tmp 6),none⟩,none⟩,⟨1,
 0,0,⟨some 40,.load none (.tmp 3),none⟩,none⟩,⟨2,0,0,⟨some 41,.mv (.tmp 11),none⟩,none⟩,⟨3,0,6,⟨some 42,.idxA none 1 (.tmp 40) (.tmp 41),none⟩,none⟩,⟨4,0,14,⟨some 43,.load none
 (.tmp 42),none⟩,none⟩,⟨5,0,30,⟨some 44,.bslice 3 1 [(.int .i64 0)] 1 [(0,1,(.tmp 43))],none⟩,none⟩,⟨6,1,63,⟨some 45,.app 3 1 8 [(.int .i64 0)] (.tmp 39) (.tmp 44),none⟩,none⟩,⟨7,
 2,127,⟨none,.store 1 (.tmp 6) (.tmp 45),none⟩,none⟩]) ( .seq (.draw 0 [⟨0,0,0,⟨some 46,.load none (.tmp 7),none⟩,none⟩,⟨1,0,0,⟨some 47,.mv (.tmp 11),none⟩,none⟩,⟨2,0,2,⟨some 48,
 .bin .add (.tmp 47) (.const (.int .i64 1)),none⟩,none⟩,⟨3,0,0,⟨some 49,.load none (.tmp 5),none⟩,none⟩,⟨4,0,0,⟨some 50,.load none (.tmp 3),none⟩,none⟩,⟨5,0,0,⟨some 51,.mv (.tmp
 11),none⟩,none⟩,⟨6,0,48,⟨some 52,.idxA none 1 (.tmp 50) (.tmp 51),none⟩,none⟩,⟨7,0,112,⟨some 53,.load none (.tmp 52),none⟩,none⟩,⟨8,0,248,⟨some 54,.look [(.int .i64)] false (.int
 .i64 0) false (.tmp 49) (.tmp 53),none⟩,none⟩,⟨9,0,0,⟨some 55,.mv (.tmp 2),none⟩,none⟩,⟨10,0,512,⟨some 56,.bin .sub (.tmp 55) (.const (.int .i64 1)),none⟩,none⟩,⟨11,0,2047,⟨some
 57,.call (.tmp 46) [(.tmp 48),(.tmp 54),(.tmp 56)],none⟩,none⟩]) ( .ret))) ( .skip)))) ( .region 0 [⟨some 21,.mv (.tmp 11),none⟩,⟨some 22,.bin .add (.tmp 21) (.const (.int .i64 1)),none⟩,
 ⟨some 11,.mv (.tmp 22),none⟩])))))⟩
def f140 : IFn:=⟨16,[.tmp 4,.tmp 5],.seq (.region 1 [⟨some 2,.box 24 (.tmp 0),none⟩,⟨some 4,.mv (.const (.int .i64 0)),none⟩,⟨some 5,.mv (.const (.int .i64 0)),none⟩]) ( .seq (.seq (.region 0 [⟨some 7,
 .load (some 2) (.tmp 2),none⟩,⟨some 8,.mv (.tmp 1),none⟩,⟨some 9,.call (.func 162) [(.tmp 7),(.tmp 8)],none⟩,⟨some 6,.mv (.tmp 9),none⟩]) ( .seq (.region 0 [⟨some 10,.mv (.tmp 6),none⟩,
 ⟨some 11,.bin .neq (.tmp 10) (.const (.int .i64 0)),none⟩]) ( .cond (.tmp 11) ( .seq (.region 0 [⟨some 12,.mv (.tmp 6),none⟩,⟨some 4,.mv (.const (.int .i64 0)),none⟩,⟨some 5,.mv (.tmp 12),
 none⟩]) ( .ret)) ( .skip)))) ( .seq (.region 0 [⟨some 13,.load (some 2) (.tmp 2),none⟩,⟨some 14,.mv (.tmp 1),none⟩,⟨some 15,.call (.func 163) [(.tmp 13),(.tmp 14)],none⟩,⟨some 4,.mv (.tmp
 15),none⟩,⟨some 5,.mv (.const (.int .i64 0)),none⟩]) ( .ret)))⟩
def f142 : IFn:=⟨54,[.cell 4 (some 2)],.seq (.region 3 [⟨some 2,.box 119 (.tmp 0),none⟩,⟨some 3,.box 123 (.tmp 1),none⟩,⟨some 4,.alloc 110 [(.int .i64 0),(.int .i64 0)],none⟩]) ( .seq (.seq (.draw 0 [⟨0,
 0,0,⟨some 11,.fldA 0 (.tmp 3),none⟩,none⟩,⟨1,0,1,⟨some 12,.load none (.tmp 11),none⟩,none⟩,⟨2,0,0,⟨some 13,.load none (.tmp 2),none⟩,none⟩,⟨3,0,4,⟨some 14,.call (.func 96)
 [(.tmp 13)],none⟩,none⟩,⟨4,0,15,⟨some 15,.bin .eql (.tmp 12) (.tmp 14),none⟩,none⟩]) ( .cond (.tmp 15) ( .seq (.region 0 [⟨some 16,.build [(.int .i64 0),(.int .i64 0)] [],none⟩,⟨none,
 .store 2 (.tmp 4) (.tmp 16),none⟩]) ( .ret)) ( .skip))) ( .seq (.seq (.draw 1 [⟨0,0,0,⟨some 18,.load none (.tmp 2),none⟩,none⟩,⟨1,0,1,⟨some 19,.nilc (.tmp 18),none⟩,none⟩,⟨2,0,3,
 ⟨some 20,.fldA 9 (.tmp 19),none⟩,none⟩,⟨3,0,7,⟨some 21,.load none (.tmp 20),none⟩,none⟩,⟨4,0,0,⟨some 22,.load (some 2) (.tmp 3),none⟩,none⟩,⟨5,0,31,⟨some 23,.look [(.int .i64),
 (.int .i64)] true (.agg #[(.int .i64 0),(.int .i64 0)]) true (.tmp 21) (.tmp 22),none⟩,none⟩,⟨6,0,63,⟨some 17,.mv (.tmp 23),none⟩,none⟩,⟨7,0,127,⟨some 24,.extr (.tmp 17) 0,none⟩,
 none⟩,⟨8,0,127,⟨some 25,.extr (.tmp 17) 1,none⟩,none⟩,⟨9,0,0,⟨some 5,.alloc 110 [(.int .i64 0),(.int .i64 0)],none⟩,none⟩,⟨10,1,767,⟨none,.store 2 (.tmp 5) (.tmp 24),none⟩,
 none⟩,⟨11,1,2047,⟨some 6,.mv (.tmp 25),none⟩,none⟩]) ( .seq (.region 0 [⟨some 26,.mv (.tmp 6),none⟩]) ( .cond (.tmp 26) ( .seq (.region 0 [⟨some 27,.load (some 2) (.tmp 5),none⟩,⟨none,
 .store 2 (.tmp 4) (.tmp 27),none⟩]) ( .ret)) ( .skip)))) ( .seq (.region 1 [⟨some 7,.alloc 110 [(.int .i64 0),(.int .i64 0)],none⟩]) ( .seq (.region 1 [⟨some 8,.alloc 4 [(.bool false)],none⟩,
 ⟨none,.store 1 (.tmp 8) (.const (.bool false)),none⟩]) ( .seq (.seq (.region 0 [⟨some 28,.load none (.tmp 2),none⟩,⟨some 29,.load (some 2) (.tmp 3),none⟩,⟨some 30,.call (.func 98) [(.tmp
 28),(.tmp 29)],none⟩]) ( .block 0 ( .rangeF (.tmp 30) [31] (.region 1 [⟨some 9,.alloc 135 [(.int .i64 0),(.int .i64 0),(.int .i64 0),(.int .i64 0),(.int .i64 0)],none⟩,⟨none,.store 5 (.tmp
 9) (.tmp 31),none⟩]) (.block 1 ( .seq (.draw 1 [⟨0,0,0,⟨some 32,.fldA 3 (.tmp 9),none⟩,none⟩,⟨1,0,1,⟨some 33,.load (some 2) (.tmp 32),none⟩,none⟩,⟨2,0,0,⟨some 34,.load none (.tmp
 2),none⟩,none⟩,⟨3,0,0,⟨some 35,.fldA 1 (.tmp 9),none⟩,none⟩,⟨4,0,8,⟨some 36,.load (some 2) (.tmp 35),none⟩,none⟩,⟨7,0,0,⟨some 10,.alloc 110 [(.int .i64 0),(.int .i64 0)],none⟩,
 none⟩,⟨5,0,28,⟨some 37,.call (.func 142) [(.tmp 34),(.tmp 36)],none⟩,none⟩,⟨6,0,63,⟨some 38,.call (.func 99) [(.tmp 33),(.tmp 37)],none⟩,none⟩,⟨8,1,255,⟨none,.store 2 (.tmp 10)
 (.tmp 38),none⟩,none⟩]) ( .seq (.region 0 [⟨some 39,.load none (.tmp 8),none⟩,⟨some 40,.un .not (.tmp 39),none⟩,⟨some 41,.mv (.tmp 40),none⟩,⟨some 42,.load (some 2) (.tmp 10),(some (41,
 false))⟩,⟨some 43,.load (some 2) (.tmp 7),(some (41,false))⟩,⟨some 44,.call (.func 97) [(.tmp 42),(.tmp 43)],(some (41,false))⟩,⟨some 45,.pick (.tmp 41) (.const (.bool true)) (.tmp 44),
 none⟩]) ( .cond (.tmp 45) ( .region 0 [⟨some 46,.load (some 2) (.tmp 10),none⟩,⟨none,.store 2 (.tmp 7) (.tmp 46),none⟩,⟨none,.store 1 (.tmp 8) (.const (.bool true)),none⟩]) ( .skip)))))))) (
 .seq (.draw 0 [⟨0,0,0,⟨some 47,.load none (.tmp 2),none⟩,none⟩,⟨1,0,1,⟨some 48,.nilc (.tmp 47),none⟩,none⟩,⟨2,0,3,⟨some 49,.fldA 9 (.tmp 48),none⟩,none⟩,⟨3,0,7,⟨some 50,.load
 none (.tmp 49),none⟩,none⟩,⟨4,0,0,⟨some 51,.load (some 2) (.tmp 3),none⟩,none⟩,⟨5,0,0,⟨some 52,.load (some 2) (.tmp 7),none⟩,none⟩,⟨6,0,63,⟨none,.mset [(.int .i64),(.int .i64)]
 true (.tmp 50) (.tmp 51) (.tmp 52),none⟩,none⟩]) ( .seq (.region 0 [⟨some 53,.load (some 2) (.tmp 7),none⟩,⟨none,.store 2 (.tmp 4) (.tmp 53),none⟩]) ( .ret))))))))⟩
def f143 : IFn:=⟨80,[],.seq (.region 0 [⟨some 11,.load none (.tmp 1),none⟩,⟨some 12,.nilc (.tmp 11),none⟩,⟨some 13,.fldA 4 (.tmp 12),none⟩,⟨some 14,.load none (.tmp 13),none⟩,⟨some 15,.ln (.tmp 14),
 none⟩,⟨some 16,.mv (.const (.int .i64 0)),none⟩]) ( .block 0 ( .loop ( .seq (.region 0 [⟨some 17,.bin .lss (.tmp 16) (.tmp 15),none⟩]) ( .seq (.cond (.tmp 17) ( .skip) ( .exit 0)) ( .seq (.block
 1 ( .seq (.region 0 [⟨some 18,.mv (.tmp 16),none⟩,⟨some 19,.idxA none 1 (.tmp 14) (.tmp 16),none⟩,⟨some 20,.load none (.tmp 19),none⟩,⟨some 4,.mv (.tmp 18),none⟩,⟨some 5,.mv (.tmp 20),
 none⟩]) ( .seq (.seq (.region 0 [⟨some 21,.fldA 0 (.tmp 2),none⟩,⟨some 22,.load none (.tmp 21),none⟩,⟨some 23,.mv (.tmp 4),none⟩,⟨some 24,.bin .shr (.tmp 22) (.tmp 23),none⟩,⟨some 25,
 .bin .and (.tmp 24) (.const (.int .i64 1)),none⟩,⟨some 26,.bin .eql (.tmp 25) (.const (.int .i64 1)),none⟩]) ( .cond (.tmp 26) ( .exit 1) ( .skip))) ( .seq (.region 0 [⟨some 27,.load none (.tmp
 1),none⟩,⟨some 28,.mv (.tmp 4),none⟩,⟨some 29,.fldA 0 (.tmp 2),none⟩,⟨some 30,.load none (.tmp 29),none⟩,⟨some 31,.call (.func 144) [(.tmp 27),(.tmp 28),(.tmp 30)],none⟩,⟨some 6,.mv
 (.tmp 31),none⟩]) ( .seq (.draw 1 [⟨0,0,0,⟨some 32,.fldA 0 (.tmp 2),none⟩,none⟩,⟨1,0,1,⟨some 33,.load none (.tmp 32),none⟩,none⟩,⟨2,0,0,⟨some 34,.mv (.tmp 4),none⟩,none⟩,⟨3,0,
 4,⟨some 35,.bin .shl (.const (.int .i64 1)) (.tmp 34),none⟩,none⟩,⟨4,0,15,⟨some 36,.bin .or (.tmp 33) (.tmp 35),none⟩,none⟩,⟨5,0,0,⟨some 37,.fldA 1 (.tmp 2),none⟩,none⟩,⟨6,0,32,
 ⟨some 38,.load none (.tmp 37),none⟩,none⟩,⟨7,0,127,⟨some 39,.build [(.int .i64 0),(.int .i64 0)] [(0,1,(.tmp 36)),(1,1,(.tmp 38))],none⟩,none⟩,⟨8,0,0,⟨some 7,.alloc 123 [(.int
 .i64 0),(.int .i64 0)],none⟩,none⟩,⟨9,1,511,⟨none,.store 2 (.tmp 7) (.tmp 39),none⟩,none⟩]) ( .seq (.region 0 [⟨some 41,.load none (.tmp 1),none⟩,⟨some 42,.nilc (.tmp 41),none⟩,⟨some
 43,.fldA 5 (.tmp 42),none⟩,⟨some 44,.load none (.tmp 43),none⟩,⟨some 45,.mv (.tmp 5),none⟩,⟨some 46,.look [(.int .i64)] false (.int .i64 0) true (.tmp 44) (.tmp 45),none⟩,⟨some 40,.mv
 (.tmp 46),none⟩,⟨some 47,.extr (.tmp 40) 0,none⟩,⟨some 48,.extr (.tmp 40) 1,none⟩,⟨some 8,.mv (.tmp 47),none⟩,⟨some 9,.mv (.tmp 48),none⟩]) ( .seq (.seq (.region 0 [⟨some 49,.mv (.tmp
 9),none⟩,⟨some 50,.mv (.tmp 49),none⟩,⟨some 51,.mv (.tmp 8),(some (50,true))⟩,⟨some 52,.fldA 1 (.tmp 2),(some (50,true))⟩,⟨some 53,.load none (.tmp 52),(some (50,true))⟩,⟨some 54,
 .bin .gtr (.tmp 51) (.tmp 53),(some (50,true))⟩,⟨some 55,.pick (.tmp 50) (.tmp 54) (.const (.bool false)),none⟩,⟨some 56,.mv (.tmp 55),none⟩,⟨some 57,.mv (.tmp 0),(some (56,true))⟩,⟨some
 58,.mv (.tmp 4),(some (56,true))⟩,⟨some 59,.fldA 0 (.tmp 7),(some (56,true))⟩,⟨some 60,.load none (.tmp 59),(some (56,true))⟩,⟨some 61,.mv (.tmp 8),(some (56,true))⟩,⟨some 62,.build
 [(.int .i64 0),(.int .i64 0)] [(0,1,(.tmp 60)),(1,1,(.tmp 61))],(some (56,true))⟩,⟨some 63,.mv (.tmp 6),(some (56,true))⟩,⟨some 64,.build [(.int .i64 0),(.int .i64 0)] [(0,1,(.tmp
 63)),(1,1,(.const (.int .i64 0)))],(some (56,true))⟩,⟨some 65,.build [(.int .i64 0),(.int .i64 0),(.int .i64 0),(.int .i64 0),(.int .i64 0)] [(0,1,(.tmp 58)),(1,2,(.tmp 62)),(3,2,
 (.tmp 64))],(some (56,true))⟩,⟨some 66,.call (.tmp 57) [(.tmp 65)],(some (56,true))⟩,⟨some 67,.un .not (.tmp 66),(some (56,true))⟩,⟨some 68,.pick (.tmp 56) (.tmp 67) (.const (.bool
 false)),none⟩]) ( .cond (.tmp 68) ( .ret) ( .skip))) ( .seq (.region 0 [⟨some 10,.mv (.const (.int .i64 0)),none⟩]) ( .seq (.seq (.region 0 [⟨some 69,.mv (.tmp 9),none⟩]) ( .cond (.tmp 69) (
 .region 0 [⟨some 10,.mv (.const (.int .i64 1)),none⟩]) ( .skip))) ( .seq (.region 0 [⟨some 70,.mv (.tmp 0),none⟩,⟨some 71,.mv (.tmp 4),none⟩,⟨some 72,.load (some 2) (.tmp 7),none⟩,⟨some
 73,.mv (.tmp 6),none⟩,⟨some 74,.mv (.tmp 10),none⟩,⟨some 75,.build [(.int .i64 0),(.int .i64 0)] [(0,1,(.tmp 73)),(1,1,(.tmp 74))],none⟩,⟨some 76,.build [(.int .i64 0),(.int .i64 0),
 (.int .i64 0),(.int .i64 0),(.int .i64 0)] [(0,1,(.tmp 71)),(1,2,(.tmp 72)),(3,2,(.tmp 75))],none⟩,⟨some 77,.call (.tmp 70) [(.tmp 76)],none⟩,⟨some 78,.un .not (.tmp 77),none⟩]) (
 .cond (.tmp 78) ( .ret) ( .skip)))))))))))) ( .region 0 [⟨some 79,.bin .add (.tmp 16) (.const (.int .i64 1)),none⟩,⟨some 16,.mv (.tmp 79),none⟩]))))))⟩
def f144 : IFn:=⟨75,[.tmp 6],.seq (.region 0 [⟨some 6,.mv (.const (.int .i64 0)),none⟩]) ( .seq (.region 0 [⟨some 7,.mv (.const (.int .i64 0)),none⟩]) ( .seq (.seq (.region 0 [⟨some 12,.mv (.tmp 0),none⟩,
 ⟨some 13,.nilc (.tmp 12),none⟩,⟨some 14,.fldA 6 (.tmp 13),none⟩,⟨some 15,.load none (.tmp 14),none⟩,⟨some 16,.ln (.tmp 15),none⟩,⟨some 17,.mv (.const (.int .i64 0)),none⟩]) ( .block 0 (
 .loop ( .seq (.region 0 [⟨some 18,.bin .lss (.tmp 17) (.tmp 16),none⟩]) ( .seq (.cond (.tmp 18) ( .skip) ( .exit 0)) ( .seq (.block 1 ( .seq (.region 0 [⟨some 19,.idxA none 1 (.tmp 15) (.tmp 17),
 none⟩,⟨some 20,.load none (.tmp 19),none⟩,⟨some 9,.mv (.tmp 20),none⟩]) ( .draw 0 [⟨0,0,0,⟨some 21,.mv (.tmp 7),none⟩,none⟩,⟨1,0,0,⟨some 22,.mv (.tmp 0),none⟩,none⟩,⟨2,0,2,
 ⟨some 23,.nilc (.tmp 22),none⟩,none⟩,⟨3,0,6,⟨some 24,.fldA 8 (.tmp 23),none⟩,none⟩,⟨4,0,14,⟨some 25,.load none (.tmp 24),none⟩,none⟩,⟨5,0,0,⟨some 26,.mv (.tmp 0),none⟩,none⟩,
 ⟨6,0,32,⟨some 27,.nilc (.tmp 26),none⟩,none⟩,⟨7,0,96,⟨some 28,.fldA 4 (.tmp 27),none⟩,none⟩,⟨8,0,224,⟨some 29,.load none (.tmp 28),none⟩,none⟩,⟨9,0,0,⟨some 30,.mv (.tmp 1),
 none⟩,none⟩,⟨10,0,992,⟨some 31,.idxA none 1 (.tmp 29) (.tmp 30),none⟩,none⟩,⟨11,0,2016,⟨some 32,.load none (.tmp 31),none⟩,none⟩,⟨12,0,4094,⟨some 33,.idxA none 1 (.tmp 25) (.tmp
 32),none⟩,none⟩,⟨13,0,8190,⟨some 34,.load none (.tmp 33),none⟩,none⟩,⟨14,0,0,⟨some 35,.mv (.tmp 9),none⟩,none⟩,⟨15,0,32766,⟨some 36,.idxA none 1 (.tmp 34) (.tmp 35),none⟩,
 none⟩,⟨16,0,65534,⟨some 37,.load none (.tmp 36),none⟩,none⟩,⟨17,0,131071,⟨some 38,.bin .add (.tmp 21) (.tmp 37),none⟩,none⟩,⟨18,0,262143,⟨some 7,.mv (.tmp 38),none⟩,none⟩]))) (
 .region 0 [⟨some 39,.bin .add (.tmp 17) (.const (.int .i64 1)),none⟩,⟨some 17,.mv (.tmp 39),none⟩]))))))) ( .seq (.seq (.region 0 [⟨some 40,.mv (.tmp 0),none⟩,⟨some 41,.nilc (.tmp 40),
 none⟩,⟨some 42,.fldA 4 (.tmp 41),none⟩,⟨some 43,.load none (.tmp 42),none⟩,⟨some 44,.ln (.tmp 43),none⟩,⟨some 45,.mv (.const (.int .i64 0)),none⟩]) ( .block 2 ( .loop ( .seq (.region 0
 [⟨some 46,.bin .lss (.tmp 45) (.tmp 44),none⟩]) ( .seq (.cond (.tmp 46) ( .skip) ( .exit 2)) ( .seq (.block 3 ( .seq (.region 0 [⟨some 47,.mv (.tmp 45),none⟩,⟨some 48,.idxA none 1 (.tmp 43)
 (.tmp 45),none⟩,⟨some 49,.load none (.tmp 48),none⟩,⟨some 10,.mv (.tmp 47),none⟩,⟨some 11,.mv (.tmp 49),none⟩]) ( .seq (.region 0 [⟨some 50,.mv (.tmp 2),none⟩,⟨some 51,.mv (.tmp 10),
 none⟩,⟨some 52,.bin .shr (.tmp 50) (.tmp 51),none⟩,⟨some 53,.bin .and (.tmp 52) (.const (.int .i64 1)),none⟩,⟨some 54,.bin .eql (.tmp 53) (.const (.int .i64 1)),none⟩]) ( .cond (.tmp 54) (
 .draw 0 [⟨0,0,0,⟨some 55,.mv (.tmp 7),none⟩,none⟩,⟨1,0,0,⟨some 56,.mv (.tmp 0),none⟩,none⟩,⟨2,0,2,⟨some 57,.nilc (.tmp 56),none⟩,none⟩,⟨3,0,6,⟨some 58,.fldA 8 (.tmp 57),
 none⟩,none⟩,⟨4,0,14,⟨some 59,.load none (.tmp 58),none⟩,none⟩,⟨5,0,0,⟨some 60,.mv (.tmp 0),none⟩,none⟩,⟨6,0,32,⟨some 61,.nilc (.tmp 60),none⟩,none⟩,⟨7,0,96,⟨some 62,.fldA 4
 (.tmp 61),none⟩,none⟩,⟨8,0,224,⟨some 63,.load none (.tmp 62),none⟩,none⟩,⟨9,0,0,⟨some 64,.mv (.tmp 1),none⟩,none⟩,⟨10,0,992,⟨some 65,.idxA none 1 (.tmp 63) (.tmp 64),none⟩,
 none⟩,⟨11,0,2016,⟨some 66,.load none (.tmp 65),none⟩,none⟩,⟨12,0,4094,⟨some 67,.idxA none 1 (.tmp 59) (.tmp 66),none⟩,none⟩,⟨13,0,8190,⟨some 68,.load none (.tmp 67),none⟩,none⟩,
 ⟨14,0,0,⟨some 69,.mv (.tmp 11),none⟩,none⟩,⟨15,0,32766,⟨some 70,.idxA none 1 (.tmp 68) (.tmp 69),none⟩,none⟩,⟨16,0,65534,⟨some 71,.load none (.tmp 70),none⟩,none⟩,⟨17,0,131071,
 ⟨some 72,.bin .add (.tmp 55) (.tmp 71),none⟩,none⟩,⟨18,0,262143,⟨some 7,.mv (.tmp 72),none⟩,none⟩]) ( .skip))))) ( .region 0 [⟨some 73,.bin .add (.tmp 45) (.const (.int .i64 1)),none⟩,
 ⟨some 45,.mv (.tmp 73),none⟩]))))))) ( .seq (.region 0 [⟨some 74,.mv (.tmp 7),none⟩,⟨some 6,.mv (.tmp 74),none⟩]) ( .ret)))))⟩
def f147 : IFn:=⟨26,[],.seq (.region 1 [⟨some 2,.box 159 (.tmp 0),none⟩]) ( .seq (.region 2 [⟨some 8,.load none (.tmp 1),none⟩,⟨some 9,.call (.func 95) [(.tmp 8)],none⟩,⟨some 7,.mv (.tmp 9),none⟩,⟨some
 10,.extr (.tmp 7) 0,none⟩,⟨some 11,.extr (.tmp 7) 1,none⟩,⟨some 3,.alloc 123 [(.int .i64 0),(.int .i64 0)],none⟩,⟨some 4,.alloc 110 [(.int .i64 0),(.int .i64 0)],none⟩,⟨none,.store 2
 (.tmp 3) (.tmp 10),none⟩,⟨none,.store 2 (.tmp 4) (.tmp 11),none⟩]) ( .seq (.region 1 [⟨some 12,.load none (.tmp 1),none⟩,⟨some 13,.call (.func 94) [(.tmp 12)],none⟩,⟨some 5,.alloc 110
 [(.int .i64 0),(.int .i64 0)],none⟩,⟨none,.store 2 (.tmp 5) (.tmp 13),none⟩]) ( .seq (.region 1 [⟨some 6,.alloc 197 [.nilFunc],none⟩]) ( .seq (.region 0 [⟨some 14,.mkfn (.func 148) [] [(.tmp
 1),(.tmp 2),(.tmp 5),(.tmp 6)],none⟩,⟨none,.store 1 (.tmp 6) (.tmp 14),none⟩]) ( .draw 1 [⟨0,0,0,⟨some 15,.load none (.tmp 6),none⟩,none⟩,⟨1,0,0,⟨some 16,.load none (.tmp 1),none⟩,
 none⟩,⟨2,0,2,⟨some 17,.nilc (.tmp 16),none⟩,none⟩,⟨3,0,6,⟨some 18,.fldA 6 (.tmp 17),none⟩,none⟩,⟨4,0,14,⟨some 19,.load none (.tmp 18),none⟩,none⟩,⟨6,0,0,⟨some 21,.mkmap,
 none⟩,none⟩,⟨7,1,0,⟨some 22,.load (some 2) (.tmp 3),none⟩,none⟩,⟨8,1,0,⟨some 23,.load (some 2) (.tmp 4),none⟩,none⟩,⟨9,1,448,⟨none,.mset [(.int .i64),(.int .i64)] true (.tmp 21)
 (.tmp 22) (.tmp 23),none⟩,(some 6)⟩,⟨10,1,960,⟨some 24,.mv (.tmp 21),none⟩,none⟩,⟨5,0,30,⟨some 20,.call (.func 73) [(.tmp 19)],none⟩,none⟩,⟨11,1,2047,⟨some 25,.call (.tmp 15)
 [(.tmp 20),(.tmp 24)],none⟩,none⟩])))))⟩
def f148 : IFn:=⟨104,[.tmp 8],.seq (.region 0 [⟨some 8,.mv (.const (.bool false)),none⟩]) ( .seq (.seq (.region 0 [⟨some 18,.mv (.tmp 0),none⟩,⟨some 19,.ln (.tmp 18),none⟩,⟨some 20,.load none (.tmp 2),
 none⟩,⟨some 21,.nilc (.tmp 20),none⟩,⟨some 22,.fldA 0 (.tmp 21),none⟩,⟨some 23,.fldA 0 (.tmp 22),none⟩,⟨some 24,.fldA 0 (.tmp 23),none⟩,⟨some 25,.load none (.tmp 24),none⟩,⟨some 26,
 .bin .eql (.tmp 19) (.tmp 25),none⟩]) ( .cond (.tmp 26) ( .seq (.draw 0 [⟨0,0,0,⟨some 27,.load none (.tmp 3),none⟩,none⟩,⟨1,0,0,⟨some 28,.mv (.tmp 0),none⟩,none⟩,⟨2,0,2,⟨some 29,
 .call (.func 73) [(.tmp 28)],none⟩,none⟩,⟨3,0,7,⟨some 30,.call (.tmp 27) [(.tmp 29)],none⟩,none⟩,⟨4,0,15,⟨some 8,.mv (.tmp 30),none⟩,none⟩]) ( .ret)) ( .skip))) ( .seq (.seq (.region
 0 [⟨some 31,.load none (.tmp 2),none⟩,⟨some 32,.nilc (.tmp 31),none⟩,⟨some 33,.fldA 4 (.tmp 32),none⟩,⟨some 34,.load none (.tmp 33),none⟩,⟨some 35,.ln (.tmp 34),none⟩,⟨some 36,.mv
 (.const (.int .i64 0)),none⟩]) ( .block 0 ( .loop ( .seq (.region 0 [⟨some 37,.bin .lss (.tmp 36) (.tmp 35),none⟩]) ( .seq (.cond (.tmp 37) ( .skip) ( .exit 0)) ( .seq (.block 1 ( .seq (.region 1
 [⟨some 38,.mv (.tmp 36),none⟩,⟨some 39,.idxA none 1 (.tmp 34) (.tmp 36),none⟩,⟨some 40,.load none (.tmp 39),none⟩,⟨some 9,.alloc 3 [(.int .i64 0)],none⟩,⟨none,.store 1 (.tmp 9) (.tmp
 38),none⟩,⟨some 10,.mv (.tmp 40),none⟩]) ( .seq (.region 2 [⟨some 41,.mkmap,none⟩,⟨some 11,.alloc 126 [(.map none)],none⟩,⟨none,.store 1 (.tmp 11) (.tmp 41),none⟩]) ( .seq (.seq (.region
 1 [⟨some 42,.mv (.tmp 1),none⟩,⟨some 43,.rngm (.tmp 42),none⟩]) ( .block 2 ( .loop ( .seq (.region 0 [⟨some 44,.nxtm (.tmp 43),none⟩,⟨some 45,.extr (.tmp 44) 0,none⟩]) ( .seq (.cond (.tmp
 45) ( .skip) ( .exit 2)) ( .block 3 ( .seq (.region 2 [⟨some 46,.entry (.tmp 43),none⟩,⟨some 47,.extr (.tmp 46) 0,none⟩,⟨some 48,.extr (.tmp 46) 1,none⟩,⟨some 12,.alloc 123 [(.int .i64 0),
 (.int .i64 0)],none⟩,⟨some 13,.alloc 110 [(.int .i64 0),(.int .i64 0)],none⟩,⟨none,.store 2 (.tmp 12) (.tmp 47),none⟩,⟨none,.store 2 (.tmp 13) (.tmp 48),none⟩]) ( .seq (.region 0 [⟨some
 49,.load none (.tmp 2),none⟩,⟨some 50,.load (some 2) (.tmp 12),none⟩,⟨some 51,.call (.func 98) [(.tmp 49),(.tmp 50)],none⟩]) ( .block 4 ( .rangeF (.tmp 51) [52] (.region 1 [⟨some 14,.alloc
 135 [(.int .i64 0),(.int .i64 0),(.int .i64 0),(.int .i64 0),(.int .i64 0)],none⟩,⟨none,.store 5 (.tmp 14) (.tmp 52),none⟩]) (.block 5 ( .seq (.seq (.region 0 [⟨some 53,.fldA 0 (.tmp 14),
 none⟩,⟨some 54,.load none (.tmp 53),none⟩,⟨some 55,.load none (.tmp 9),none⟩,⟨some 56,.bin .neq (.tmp 54) (.tmp 55),none⟩]) ( .cond (.tmp 56) ( .exit 5) ( .skip))) ( .seq (.region 1 [⟨some
 57,.load (some 2) (.tmp 13),none⟩,⟨some 58,.fldA 3 (.tmp 14),none⟩,⟨some 59,.load (some 2) (.tmp 58),none⟩,⟨some 60,.call (.func 99) [(.tmp 57),(.tmp 59)],none⟩,⟨some 15,.alloc 110
 [(.int .i64 0),(.int .i64 0)],none⟩,⟨none,.store 2 (.tmp 15) (.tmp 60),none⟩]) ( .seq (.region 1 [⟨some 62,.load none (.tmp 11),none⟩,⟨some 63,.fldA 1 (.tmp 14),none⟩,⟨some 64,.load (some
 2) (.tmp 63),none⟩,⟨some 65,.look [(.int .i64),(.int .i64)] true (.agg #[(.int .i64 0),(.int .i64 0)]) true (.tmp 62) (.tmp 64),none⟩,⟨some 61,.mv (.tmp 65),none⟩,⟨some 66,.extr (.tmp 61)
 0,none⟩,⟨some 67,.extr (.tmp 61) 1,none⟩,⟨some 16,.alloc 110 [(.int .i64 0),(.int .i64 0)],none⟩,⟨none,.store 2 (.tmp 16) (.tmp 66),none⟩,⟨some 17,.mv (.tmp 67),none⟩]) ( .seq (.draw 0
 [⟨0,0,0,⟨some 68,.load (some 2) (.tmp 15),none⟩,none⟩,⟨1,0,0,⟨some 69,.load none (.tmp 2),none⟩,none⟩,⟨2,0,0,⟨some 70,.fldA 1 (.tmp 14),none⟩,none⟩,⟨3,0,4,⟨some 71,.load
 (some 2) (.tmp 70),none⟩,none⟩,⟨6,0,0,⟨some 74,.load (some 2) (.tmp 4),none⟩,none⟩,⟨4,0,14,⟨some 72,.call (.func 142) [(.tmp 69),(.tmp 71)],none⟩,none⟩,⟨5,0,31,⟨some 73,.call
 (.func 99) [(.tmp 68),(.tmp 72)],none⟩,none⟩,⟨7,0,127,⟨some 75,.eqc false [(.int .i64),(.int .i64)] true (.tmp 73) (.tmp 74),none⟩,none⟩,⟨8,0,255,⟨some 76,.mv (.tmp 75),none⟩,none⟩,
 ⟨9,0,511,⟨some 77,.mv (.tmp 17),(some (76,true))⟩,none⟩,⟨10,0,1023,⟨some 78,.un .not (.tmp 77),(some (76,true))⟩,none⟩,⟨11,0,2047,⟨some 79,.mv (.tmp 78),(some (76,true))⟩,
 none⟩,⟨12,0,4095,⟨some 80,.load (some 2) (.tmp 15),(some (79,false))⟩,none⟩,⟨13,0,4095,⟨some 81,.load (some 2) (.tmp 16),(some (79,false))⟩,none⟩,⟨14,0,16383,⟨some 82,.call
 (.func 97) [(.tmp 80),(.tmp 81)],(some (79,false))⟩,none⟩,⟨15,0,32767,⟨some 83,.pick (.tmp 79) (.const (.bool true)) (.tmp 82),(some (76,true))⟩,none⟩,⟨16,0,65535,⟨some 84,.pick
 (.tmp 76) (.tmp 83) (.const (.bool false)),none⟩,none⟩]) ( .cond (.tmp 84) ( .region 0 [⟨some 85,.load none (.tmp 11),none⟩,⟨some 86,.fldA 1 (.tmp 14),none⟩,⟨some 87,.load (some 2) (.tmp
 86),none⟩,⟨some 88,.load (some 2) (.tmp 15),none⟩,⟨none,.mset [(.int .i64),(.int .i64)] true (.tmp 85) (.tmp 87) (.tmp 88),none⟩]) ( .skip))))))))))))))))) ( .seq (.draw 2 [⟨0,0,0,⟨some
 89,.load none (.tmp 11),none⟩,none⟩,⟨1,0,1,⟨some 90,.mlen (.tmp 89),none⟩,none⟩,⟨2,0,3,⟨some 91,.bin .gtr (.tmp 90) (.const (.int .i64 0)),none⟩,none⟩,⟨3,0,7,⟨some 92,.mv (.tmp
 91),none⟩,none⟩,⟨4,0,15,⟨some 93,.load none (.tmp 5),(some (92,true))⟩,none⟩,⟨5,0,15,⟨some 94,.mv (.tmp 0),(some (92,true))⟩,none⟩,⟨7,0,15,⟨some 96,.mv (.tmp 10),(some (92,
 true))⟩,none⟩,⟨8,0,143,⟨some 97,.bslice 3 1 [(.int .i64 0)] 1 [(0,1,(.tmp 96))],(some (92,true))⟩,none⟩,⟨10,2,15,⟨some 99,.load none (.tmp 11),(some (92,true))⟩,none⟩,⟨6,0,47,
 ⟨some 95,.call (.func 73) [(.tmp 94)],(some (92,true))⟩,none⟩,⟨9,1,495,⟨some 98,.app 3 1 8 [(.int .i64 0)] (.tmp 95) (.tmp 97),(some (92,true))⟩,none⟩,⟨11,2,2047,⟨some 100,.call
 (.tmp 93) [(.tmp 98),(.tmp 99)],(some (92,true))⟩,none⟩,⟨12,2,4095,⟨some 101,.un .not (.tmp 100),(some (92,true))⟩,none⟩,⟨13,2,8191,⟨some 102,.pick (.tmp 92) (.tmp 101) (.const
 (.bool false)),none⟩,none⟩]) ( .cond (.tmp 102) ( .seq (.region 0 [⟨some 8,.mv (.const (.bool false)),none⟩]) ( .ret)) ( .skip))))))) ( .region 0 [⟨some 103,.bin .add (.tmp 36) (.const (.int
 .i64 1)),none⟩,⟨some 36,.mv (.tmp 103),none⟩]))))))) ( .seq (.region 0 [⟨some 8,.mv (.const (.bool true)),none⟩]) ( .ret))))⟩
def f151 : IFn:=⟨6,[.tmp 2],.seq (.region 0 [⟨some 2,.mv (.const (.bool false)),none⟩]) ( .seq (.region 0 [⟨some 3,.mv (.tmp 0),none⟩,⟨some 4,.mv (.tmp 0),none⟩,⟨some 5,.bin .neq (.tmp 3) (.tmp 4),none⟩,
 ⟨some 2,.mv (.tmp 5),none⟩]) ( .ret))⟩
def f155 : IFn:=⟨6,[],.region 0 [⟨some 2,.mv (.tmp 0),none⟩,⟨some 3,.bin .eql (.tmp 2) (.const (.int .i64 0)),none⟩,⟨some 4,.mv (.tmp 0),none⟩,⟨some 5,.call (.func 156) [(.tmp 3),(.tmp 4)],none⟩]⟩
def f156 : IFn:=⟨8,[],.seq (.region 0 [⟨some 4,.mv (.tmp 0),none⟩,⟨some 5,.un .not (.tmp 4),none⟩]) ( .cond (.tmp 5) ( .region 0 [⟨some 6,.mv (.tmp 1),none⟩,⟨some 7,.mkif 204 (.tmp 6),none⟩,⟨none,.panic
 (.tmp 7),none⟩]) ( .skip))⟩
def f157 : IFn:=⟨39,[],.seq (.region 1 [⟨some 3,.box 89 (.tmp 1),none⟩]) ( .seq (.draw 0 [⟨0,0,0,⟨some 4,.mv (.tmp 0),none⟩,none⟩,⟨1,0,1,⟨some 5,.nilc (.tmp 4),none⟩,none⟩,⟨2,0,3,⟨some 6,.fldA 3
 (.tmp 5),none⟩,none⟩,⟨3,0,7,⟨some 7,.load none (.tmp 6),none⟩,none⟩,⟨4,0,0,⟨some 8,.mv (.tmp 0),none⟩,none⟩,⟨5,0,16,⟨some 9,.nilc (.tmp 8),none⟩,none⟩,⟨6,0,48,⟨some 10,
 .fldA 2 (.tmp 9),none⟩,none⟩,⟨7,0,112,⟨some 11,.load none (.tmp 10),none⟩,none⟩,⟨8,0,240,⟨some 12,.ln (.tmp 11),none⟩,none⟩,⟨9,0,511,⟨some 13,.bin .lss (.tmp 7) (.tmp 12),none⟩,
 none⟩,⟨10,0,1023,⟨some 14,.call (.func 156) [(.tmp 13),(.const (.int .i64 5))],none⟩,none⟩]) ( .seq (.region 0 [⟨some 15,.mv (.tmp 0),none⟩,⟨some 16,.nilc (.tmp 15),none⟩,⟨some 17,
 .fldA 3 (.tmp 16),none⟩,⟨some 18,.load none (.tmp 17),none⟩,⟨some 19,.bin .add (.tmp 18) (.const (.int .i64 1)),none⟩,⟨some 20,.nilc (.tmp 15),none⟩,⟨some 21,.fldA 3 (.tmp 20),none⟩,
 ⟨none,.store 1 (.tmp 21) (.tmp 19),none⟩]) ( .draw 0 [⟨0,0,0,⟨some 22,.mv (.tmp 0),none⟩,none⟩,⟨1,0,0,⟨some 23,.mv (.tmp 0),none⟩,none⟩,⟨2,0,2,⟨some 24,.nilc (.tmp 23),none⟩,
 none⟩,⟨3,0,6,⟨some 25,.fldA 4 (.tmp 24),none⟩,none⟩,⟨4,0,14,⟨some 26,.load none (.tmp 25),none⟩,none⟩,⟨5,0,0,⟨some 27,.mv (.tmp 0),none⟩,none⟩,⟨6,0,32,⟨some 28,.nilc (.tmp
 27),none⟩,none⟩,⟨7,0,96,⟨some 29,.fldA 0 (.tmp 28),none⟩,none⟩,⟨8,0,224,⟨some 30,.load (some 2) (.tmp 29),none⟩,none⟩,⟨9,0,0,⟨some 31,.mv (.tmp 0),none⟩,none⟩,⟨10,0,512,
 ⟨some 32,.nilc (.tmp 31),none⟩,none⟩,⟨11,0,1536,⟨some 33,.fldA 2 (.tmp 32),none⟩,none⟩,⟨12,0,3584,⟨some 34,.load none (.tmp 33),none⟩,none⟩,⟨13,0,8160,⟨some 35,.build [(.int
 .i64 0),(.slice none 0 0),(.slice none 0 0),(.int .i64 0)] [(0,2,(.tmp 30)),(2,1,(.tmp 34)),(3,1,(.const (.int .i64 (-1))))],none⟩,none⟩,⟨14,0,16382,⟨some 36,.call (.tmp 26) [(.tmp
 35)],none⟩,none⟩,⟨15,0,32767,⟨some 37,.nilc (.tmp 22),none⟩,none⟩,⟨16,0,65535,⟨some 38,.fldA 2 (.tmp 37),none⟩,none⟩,⟨17,0,131071,⟨none,.store 1 (.tmp 38) (.tmp 36),none⟩,
 none⟩])))⟩
def f158 : IFn:=⟨91,[],.seq (.region 1 [⟨some 3,.box 89 (.tmp 1),none⟩]) ( .seq (.draw 0 [⟨0,0,0,⟨some 12,.fldA 1 (.tmp 3),none⟩,none⟩,⟨1,0,1,⟨some 13,.load none (.tmp 12),none⟩,none⟩,⟨2,0,3,
 ⟨some 14,.bin .geq (.tmp 13) (.const (.int .i64 0)),none⟩,none⟩,⟨3,0,7,⟨some 15,.mv (.tmp 14),none⟩,none⟩,⟨4,0,15,⟨some 16,.fldA 1 (.tmp 3),(some (15,true))⟩,none⟩,⟨5,0,31,⟨some
 17,.load none (.tmp 16),(some (15,true))⟩,none⟩,⟨6,0,15,⟨some 18,.mv (.tmp 0),(some (15,true))⟩,none⟩,⟨7,0,79,⟨some 19,.nilc (.tmp 18),(some (15,true))⟩,none⟩,⟨8,0,207,⟨some
 20,.fldA 0 (.tmp 19),(some (15,true))⟩,none⟩,⟨9,0,463,⟨some 21,.fldA 0 (.tmp 20),(some (15,true))⟩,none⟩,⟨10,0,975,⟨some 22,.load none (.tmp 21),(some (15,true))⟩,none⟩,⟨11,0,
 2047,⟨some 23,.bin .lss (.tmp 17) (.tmp 22),(some (15,true))⟩,none⟩,⟨12,0,4095,⟨some 24,.pick (.tmp 15) (.tmp 23) (.const (.bool false)),none⟩,none⟩,⟨13,0,8191,⟨some 25,.call (.func
 156) [(.tmp 24),(.const (.int .i64 1))],none⟩,none⟩]) ( .seq (.draw 0 [⟨0,0,0,⟨some 26,.mv (.tmp 0),none⟩,none⟩,⟨1,0,1,⟨some 27,.nilc (.tmp 26),none⟩,none⟩,⟨2,0,3,⟨some 28,.fldA
 2 (.tmp 27),none⟩,none⟩,⟨3,0,7,⟨some 29,.load none (.tmp 28),none⟩,none⟩,⟨4,0,0,⟨some 30,.mv (.tmp 0),none⟩,none⟩,⟨5,0,16,⟨some 31,.nilc (.tmp 30),none⟩,none⟩,⟨6,0,48,⟨some
 32,.fldA 3 (.tmp 31),none⟩,none⟩,⟨7,0,112,⟨some 33,.load none (.tmp 32),none⟩,none⟩,⟨8,0,255,⟨some 34,.slc 3 1 (.tmp 29) none (some (.tmp 33)) none,none⟩,none⟩,⟨9,0,0,⟨some 35,
 .fldA 1 (.tmp 3),none⟩,none⟩,⟨10,0,512,⟨some 36,.load none (.tmp 35),none⟩,none⟩,⟨11,0,2047,⟨some 37,.call (.func 74) [(.tmp 34),(.tmp 36)],none⟩,none⟩,⟨12,0,4095,⟨some 38,.un
 .not (.tmp 37),none⟩,none⟩,⟨13,0,8191,⟨some 39,.call (.func 156) [(.tmp 38),(.const (.int .i64 70))],none⟩,none⟩]) ( .seq (.region 0 [⟨some 4,.mv (.const (.slice none 0 0)),none⟩,⟨some
 5,.mv (.const (.slice none 0 0)),none⟩]) ( .seq (.seq (.region 0 [⟨some 40,.mv (.tmp 0),none⟩,⟨some 41,.nilc (.tmp 40),none⟩,⟨some 42,.fldA 0 (.tmp 41),none⟩,⟨some 43,.fldA 0 (.tmp 42),
 none⟩,⟨some 44,.load none (.tmp 43),none⟩,⟨some 45,.mv (.const (.int .i64 0)),none⟩]) ( .block 0 ( .loop ( .seq (.region 0 [⟨some 46,.bin .lss (.tmp 45) (.tmp 44),none⟩]) ( .seq (.cond (.tmp
 46) ( .skip) ( .exit 0)) ( .seq (.block 1 ( .seq (.region 0 [⟨some 47,.mv (.tmp 45),none⟩,⟨some 6,.mv (.tmp 47),none⟩]) ( .seq (.region 0 [⟨some 48,.mv (.tmp 6),none⟩,⟨some 49,.fldA 1 (.tmp
 3),none⟩,⟨some 50,.load none (.tmp 49),none⟩,⟨some 51,.bin .neq (.tmp 48) (.tmp 50),none⟩]) ( .cond (.tmp 51) ( .region 2 [⟨some 52,.mv (.tmp 4),none⟩,⟨some 53,.mv (.tmp 6),none⟩,⟨some
 54,.bslice 3 1 [(.int .i64 0)] 1 [(0,1,(.tmp 53))],none⟩,⟨some 55,.app 3 1 8 [(.int .i64 0)] (.tmp 52) (.tmp 54),none⟩,⟨some 4,.mv (.tmp 55),none⟩]) ( .skip))))) ( .region 0 [⟨some 56,.bin
 .add (.tmp 45) (.const (.int .i64 1)),none⟩,⟨some 45,.mv (.tmp 56),none⟩]))))))) ( .seq (.seq (.region 0 [⟨some 57,.mv (.tmp 0),none⟩,⟨some 58,.nilc (.tmp 57),none⟩,⟨some 59,.fldA 2 (.tmp
 58),none⟩,⟨some 60,.load none (.tmp 59),none⟩,⟨some 61,.ln (.tmp 60),none⟩,⟨some 62,.mv (.const (.int .i64 0)),none⟩]) ( .block 2 ( .loop ( .seq (.region 0 [⟨some 63,.bin .lss (.tmp 62)
 (.tmp 61),none⟩]) ( .seq (.cond (.tmp 63) ( .skip) ( .exit 2)) ( .seq (.block 3 ( .seq (.region 0 [⟨some 64,.idxA none 1 (.tmp 60) (.tmp 62),none⟩,⟨some 65,.load none (.tmp 64),none⟩,⟨some 8,
 .mv (.tmp 65),none⟩]) ( .seq (.region 0 [⟨some 66,.mv (.tmp 4),none⟩,⟨some 67,.mv (.tmp 8),none⟩,⟨some 68,.call (.func 75) [(.tmp 66),(.tmp 67)],none⟩,⟨some 9,.mv (.tmp 68),none⟩]) (
 .seq (.region 0 [⟨some 69,.mv (.tmp 9),none⟩,⟨some 70,.bin .geq (.tmp 69) (.const (.int .i64 0)),none⟩]) ( .cond (.tmp 70) ( .region 2 [⟨some 71,.mv (.tmp 5),none⟩,⟨some 72,.mv (.tmp 9),
 none⟩,⟨some 73,.bslice 3 1 [(.int .i64 0)] 1 [(0,1,(.tmp 72))],none⟩,⟨some 74,.app 3 1 8 [(.int .i64 0)] (.tmp 71) (.tmp 73),none⟩,⟨some 5,.mv (.tmp 74),none⟩]) ( .skip)))))) ( .region 0
 [⟨some 75,.bin .add (.tmp 62) (.const (.int .i64 1)),none⟩,⟨some 62,.mv (.tmp 75),none⟩]))))))) ( .seq (.region 1 [⟨some 77,.mv (.tmp 0),none⟩,⟨some 78,.nilc (.tmp 77),none⟩,⟨some 79,
 .fldA 0 (.tmp 78),none⟩,⟨some 80,.load (some 2) (.tmp 79),none⟩,⟨some 81,.mv (.tmp 4),none⟩,⟨some 82,.call (.func 182) [(.tmp 80),(.tmp 81)],none⟩,⟨some 76,.mv (.tmp 82),none⟩,⟨some
 83,.extr (.tmp 76) 0,none⟩,⟨some 84,.extr (.tmp 76) 1,none⟩,⟨some 10,.alloc 24 [(.int .i64 0),(.slice none 0 0)],none⟩,⟨none,.store 2 (.tmp 10) (.tmp 83),none⟩,⟨some 11,.mv (.tmp 84),
 none⟩]) ( .seq (.region 0 [⟨some 85,.mv (.tmp 11),none⟩,⟨some 86,.call (.func 155) [(.tmp 85)],none⟩]) ( .region 0 [⟨some 87,.mv (.tmp 0),none⟩,⟨some 88,.load (some 2) (.tmp 10),none⟩,
 ⟨some 89,.mv (.tmp 5),none⟩,⟨some 90,.call (.func 183) [(.tmp 87),(.tmp 88),(.tmp 89)],none⟩]))))))))⟩
def f159 : IFn:=⟨7,[],.seq (.region 1 [⟨some 3,.box 89 (.tmp 1),none⟩]) ( .region 0 [⟨some 4,.mv (.tmp 0),none⟩,⟨some 5,.load (some 4) (.tmp 3),none⟩,⟨some 6,.call (.func 184) [(.tmp 4),(.tmp 5),(.const
 (.int .i64 1))],none⟩])⟩
def f160 : IFn:=⟨7,[],.seq (.region 1 [⟨some 3,.box 89 (.tmp 1),none⟩]) ( .region 0 [⟨some 4,.mv (.tmp 0),none⟩,⟨some 5,.load (some 4) (.tmp 3),none⟩,⟨some 6,.call (.func 184) [(.tmp 4),(.tmp 5),(.const
 (.int .i64 0))],none⟩])⟩
def f162 : IFn:=⟨15,[.tmp 4],.seq (.region 1 [⟨some 2,.box 24 (.tmp 0),none⟩,⟨some 4,.mv (.const (.int .i64 0)),none⟩]) ( .seq (.seq (.region 0 [⟨some 6,.load (some 2) (.tmp 2),none⟩,⟨some 7,.call (.func
 69) [(.tmp 6)],none⟩,⟨some 5,.mv (.tmp 7),none⟩]) ( .seq (.region 0 [⟨some 8,.mv (.tmp 5),none⟩,⟨some 9,.bin .neq (.tmp 8) (.const (.int .i64 0)),none⟩]) ( .cond (.tmp 9) ( .seq (.region 0
 [⟨some 10,.mv (.tmp 5),none⟩,⟨some 4,.mv (.tmp 10),none⟩]) ( .ret)) ( .skip)))) ( .seq (.region 0 [⟨some 11,.fldA 0 (.tmp 2),none⟩,⟨some 12,.load none (.tmp 11),none⟩,⟨some 13,.mv (.tmp
 1),none⟩,⟨some 14,.call (.func 84) [(.tmp 12),(.tmp 13)],none⟩,⟨some 4,.mv (.tmp 14),none⟩]) ( .ret)))⟩
def f163 : IFn:=⟨22,[.tmp 4],.seq (.region 1 [⟨some 2,.box 24 (.tmp 0),none⟩,⟨some 4,.mv (.const (.int .i64 0)),none⟩]) ( .seq (.region 0 [⟨some 5,.mv (.const (.int .i64 0)),none⟩]) ( .seq (.seq (.region 0
 [⟨some 8,.load (some 2) (.tmp 2),none⟩,⟨some 9,.mv (.tmp 1),none⟩,⟨some 10,.call (.func 186) [(.tmp 8),(.tmp 9)],none⟩,⟨some 11,.ln (.tmp 10),none⟩,⟨some 12,.mv (.const (.int .i64 0)),
 none⟩]) ( .block 0 ( .loop ( .seq (.region 0 [⟨some 13,.bin .lss (.tmp 12) (.tmp 11),none⟩]) ( .seq (.cond (.tmp 13) ( .skip) ( .exit 0)) ( .seq (.block 1 ( .seq (.region 1 [⟨some 14,.idxA none 3
 (.tmp 10) (.tmp 12),none⟩,⟨some 15,.load (some 3) (.tmp 14),none⟩,⟨some 7,.alloc 232 [(.int .i64 0),(.int .i64 0),(.int .i64 0)],none⟩,⟨none,.store 3 (.tmp 7) (.tmp 15),none⟩]) ( .region
 0 [⟨some 16,.mv (.tmp 5),none⟩,⟨some 17,.fldA 2 (.tmp 7),none⟩,⟨some 18,.load none (.tmp 17),none⟩,⟨some 19,.bin .add (.tmp 16) (.tmp 18),none⟩,⟨some 5,.mv (.tmp 19),none⟩]))) ( .region
 0 [⟨some 20,.bin .add (.tmp 12) (.const (.int .i64 1)),none⟩,⟨some 12,.mv (.tmp 20),none⟩]))))))) ( .seq (.region 0 [⟨some 21,.mv (.tmp 5),none⟩,⟨some 4,.mv (.tmp 21),none⟩]) ( .ret))))⟩
def f182 : IFn:=⟨97,[.cell 4 (some 2),.tmp 5],.seq (.region 2 [⟨some 2,.box 24 (.tmp 0),none⟩,⟨some 4,.alloc 24 [(.int .i64 0),(.slice none 0 0)],none⟩,⟨some 5,.mv (.const (.int .i64 0)),none⟩]) ( .seq
 (.seq (.region 0 [⟨some 19,.load (some 2) (.tmp 2),none⟩,⟨some 20,.call (.func 69) [(.tmp 19)],none⟩,⟨some 6,.mv (.tmp 20),none⟩]) ( .seq (.region 0 [⟨some 21,.mv (.tmp 6),none⟩,⟨some 22,
 .bin .neq (.tmp 21) (.const (.int .i64 0)),none⟩]) ( .cond (.tmp 22) ( .seq (.region 0 [⟨some 23,.build [(.int .i64 0),(.slice none 0 0)] [],none⟩,⟨some 24,.mv (.tmp 6),none⟩,⟨none,.store 2
 (.tmp 4) (.tmp 23),none⟩,⟨some 5,.mv (.tmp 24),none⟩]) ( .ret)) ( .skip)))) ( .seq (.region 1 [⟨some 25,.mkmap,none⟩,⟨some 7,.mv (.tmp 25),none⟩]) ( .seq (.seq (.region 0 [⟨some 26,.mv
 (.tmp 1),none⟩,⟨some 27,.ln (.tmp 26),none⟩,⟨some 28,.mv (.const (.int .i64 0)),none⟩]) ( .block 0 ( .loop ( .seq (.region 0 [⟨some 29,.bin .lss (.tmp 28) (.tmp 27),none⟩]) ( .seq (.cond
 (.tmp 29) ( .skip) ( .exit 0)) ( .seq (.block 1 ( .seq (.region 0 [⟨some 30,.mv (.tmp 28),none⟩,⟨some 31,.idxA none 1 (.tmp 26) (.tmp 28),none⟩,⟨some 32,.load none (.tmp 31),none⟩,⟨some 8,
 .mv (.tmp 30),none⟩,⟨some 9,.mv (.tmp 32),none⟩]) ( .seq (.seq (.region 0 [⟨some 33,.mv (.tmp 9),none⟩,⟨some 34,.fldA 0 (.tmp 2),none⟩,⟨some 35,.load none (.tmp 34),none⟩,⟨some 36,.bin
 .sub (.tmp 35) (.const (.int .i64 1)),none⟩,⟨some 37,.call (.func 134) [(.tmp 33),(.const (.int .i64 0)),(.tmp 36)],none⟩,⟨some 38,.un .not (.tmp 37),none⟩]) ( .cond (.tmp 38) ( .seq
 (.region 0 [⟨some 39,.build [(.int .i64 0),(.slice none 0 0)] [],none⟩,⟨none,.store 2 (.tmp 4) (.tmp 39),none⟩,⟨some 5,.mv (.const (.int .i64 1)),none⟩]) ( .ret)) ( .skip))) ( .seq (.seq
 (.region 0 [⟨some 41,.mv (.tmp 7),none⟩,⟨some 42,.mv (.tmp 9),none⟩,⟨some 43,.look [(.int .i64)] false (.int .i64 0) true (.tmp 41) (.tmp 42),none⟩,⟨some 40,.mv (.tmp 43),none⟩,⟨some 44,
 .extr (.tmp 40) 0,none⟩,⟨some 45,.extr (.tmp 40) 1,none⟩,⟨some 10,.mv (.tmp 44),none⟩,⟨some 11,.mv (.tmp 45),none⟩]) ( .seq (.region 0 [⟨some 46,.mv (.tmp 11),none⟩]) ( .cond (.tmp 46) (
 .seq (.region 0 [⟨some 47,.build [(.int .i64 0),(.slice none 0 0)] [],none⟩,⟨none,.store 2 (.tmp 4) (.tmp 47),none⟩,⟨some 5,.mv (.const (.int .i64 6)),none⟩]) ( .ret)) ( .skip)))) ( .region
 0 [⟨some 48,.mv (.tmp 7),none⟩,⟨some 49,.mv (.tmp 9),none⟩,⟨some 50,.mv (.tmp 8),none⟩,⟨none,.mset [(.int .i64)] false (.tmp 48) (.tmp 49) (.tmp 50),none⟩]))))) ( .region 0 [⟨some 51,.bin
 .add (.tmp 28) (.const (.int .i64 1)),none⟩,⟨some 28,.mv (.tmp 51),none⟩]))))))) ( .seq (.region 1 [⟨some 52,.mv (.tmp 1),none⟩,⟨some 53,.ln (.tmp 52),none⟩,⟨some 54,.build [(.int .i64 0),
 (.slice none 0 0)] [(0,1,(.tmp 53))],none⟩,⟨some 12,.alloc 24 [(.int .i64 0),(.slice none 0 0)],none⟩,⟨none,.store 2 (.tmp 12) (.tmp 54),none⟩]) ( .seq (.seq (.region 0 [⟨some 55,.fldA 1
 (.tmp 2),none⟩,⟨some 56,.load none (.tmp 55),none⟩,⟨some 57,.ln (.tmp 56),none⟩,⟨some 58,.mv (.const (.int .i64 0)),none⟩]) ( .block 2 ( .loop ( .seq (.region 0 [⟨some 59,.bin .lss (.tmp
 58) (.tmp 57),none⟩]) ( .seq (.cond (.tmp 59) ( .skip) ( .exit 2)) ( .seq (.block 3 ( .seq (.region 1 [⟨some 60,.idxA none 4 (.tmp 56) (.tmp 58),none⟩,⟨some 61,.load (some 4) (.tmp 60),none⟩,
 ⟨some 14,.alloc 181 [(.int .i64 0),(.int .i64 0),(.int .i64 0),(.int .i64 0)],none⟩,⟨none,.store 4 (.tmp 14) (.tmp 61),none⟩]) ( .seq (.region 0 [⟨some 63,.mv (.tmp 7),none⟩,⟨some 64,
 .fldA 0 (.tmp 14),none⟩,⟨some 65,.load none (.tmp 64),none⟩,⟨some 66,.look [(.int .i64)] false (.int .i64 0) true (.tmp 63) (.tmp 65),none⟩,⟨some 62,.mv (.tmp 66),none⟩,⟨some 67,.extr
 (.tmp 62) 0,none⟩,⟨some 68,.extr (.tmp 62) 1,none⟩,⟨some 15,.mv (.tmp 67),none⟩,⟨some 16,.mv (.tmp 68),none⟩]) ( .seq (.region 0 [⟨some 70,.mv (.tmp 7),none⟩,⟨some 71,.fldA 1 (.tmp 14),
 none⟩,⟨some 72,.load none (.tmp 71),none⟩,⟨some 73,.look [(.int .i64)] false (.int .i64 0) true (.tmp 70) (.tmp 72),none⟩,⟨some 69,.mv (.tmp 73),none⟩,⟨some 74,.extr (.tmp 69) 0,none⟩,
 ⟨some 75,.extr (.tmp 69) 1,none⟩,⟨some 17,.mv (.tmp 74),none⟩,⟨some 18,.mv (.tmp 75),none⟩]) ( .seq (.region 0 [⟨some 76,.mv (.tmp 16),none⟩,⟨some 77,.mv (.tmp 76),none⟩,⟨some 78,.mv
 (.tmp 18),(some (77,true))⟩,⟨some 79,.pick (.tmp 77) (.tmp 78) (.const (.bool false)),none⟩]) ( .cond (.tmp 79) ( .region 2 [⟨some 80,.fldA 1 (.tmp 12),none⟩,⟨some 81,.load none (.tmp 80),
 none⟩,⟨some 82,.mv (.tmp 15),none⟩,⟨some 83,.mv (.tmp 17),none⟩,⟨some 84,.fldA 2 (.tmp 14),none⟩,⟨some 85,.load none (.tmp 84),none⟩,⟨some 86,.fldA 3 (.tmp 14),none⟩,⟨some 87,.load
 none (.tmp 86),none⟩,⟨some 88,.build [(.int .i64 0),(.int .i64 0),(.int .i64 0),(.int .i64 0)] [(0,1,(.tmp 82)),(1,1,(.tmp 83)),(2,1,(.tmp 85)),(3,1,(.tmp 87))],none⟩,⟨some 89,
 .bslice 181 4 [(.int .i64 0),(.int .i64 0),(.int .i64 0),(.int .i64 0)] 1 [(0,4,(.tmp 88))],none⟩,⟨some 90,.app 181 4 32 [(.int .i64 0),(.int .i64 0),(.int .i64 0),(.int .i64 0)] (.tmp 81)
 (.tmp 89),none⟩,⟨some 91,.fldA 1 (.tmp 12),none⟩,⟨none,.store 1 (.tmp 91) (.tmp 90),none⟩]) ( .skip))))))) ( .region 0 [⟨some 92,.bin .add (.tmp 58) (.const (.int .i64 1)),none⟩,⟨some 58,
 .mv (.tmp 92),none⟩]))))))) ( .seq (.region 0 [⟨some 93,.fldA 1 (.tmp 12),none⟩,⟨some 94,.load none (.tmp 93),none⟩,⟨some 95,.call (.func 195) [(.tmp 94),(.func 135)],none⟩]) ( .seq
 (.region 0 [⟨some 96,.load (some 2) (.tmp 12),none⟩,⟨none,.store 2 (.tmp 4) (.tmp 96),none⟩,⟨some 5,.mv (.const (.int .i64 0)),none⟩]) ( .ret))))))))⟩
def f183 : IFn:=⟨30,[],.seq (.region 1 [⟨some 4,.box 24 (.tmp 1),none⟩]) ( .seq (.draw 1 [⟨0,0,0,⟨some 7,.load (some 2) (.tmp 4),none⟩,none⟩,⟨1,0,0,⟨some 8,.mv (.tmp 2),none⟩,none⟩,⟨2,0,0,⟨some
 9,.mv (.tmp 0),none⟩,none⟩,⟨3,0,4,⟨some 10,.nilc (.tmp 9),none⟩,none⟩,⟨4,0,12,⟨some 11,.fldA 3 (.tmp 10),none⟩,none⟩,⟨5,0,28,⟨some 12,.load none (.tmp 11),none⟩,none⟩,⟨6,0,
 63,⟨some 13,.build [(.int .i64 0),(.slice none 0 0),(.slice none 0 0),(.int .i64 0)] [(0,2,(.tmp 7)),(2,1,(.tmp 8)),(3,1,(.tmp 12))],none⟩,none⟩,⟨7,0,0,⟨some 6,.alloc 27 [(.int
 .i64 0),(.slice none 0 0),(.slice none 0 0),(.int .i64 0)],none⟩,none⟩,⟨8,1,255,⟨none,.store 4 (.tmp 6) (.tmp 13),none⟩,none⟩]) ( .seq (.region 0 [⟨some 14,.load (some 4) (.tmp 6),
 none⟩,⟨some 15,.call (.func 24) [(.tmp 14)],none⟩,⟨some 16,.call (.func 155) [(.tmp 15)],none⟩]) ( .draw 0 [⟨0,0,0,⟨some 17,.mv (.tmp 0),none⟩,none⟩,⟨1,0,0,⟨some 18,.mv (.tmp 0),
 none⟩,none⟩,⟨2,0,0,⟨some 19,.load (some 2) (.tmp 4),none⟩,none⟩,⟨3,0,0,⟨some 20,.mv (.tmp 0),none⟩,none⟩,⟨4,0,8,⟨some 21,.nilc (.tmp 20),none⟩,none⟩,⟨5,0,24,⟨some 22,.fldA
 4 (.tmp 21),none⟩,none⟩,⟨6,0,56,⟨some 23,.load none (.tmp 22),none⟩,none⟩,⟨7,0,0,⟨some 24,.load (some 4) (.tmp 6),none⟩,none⟩,⟨8,0,248,⟨some 25,.call (.tmp 23) [(.tmp 24)],
 none⟩,none⟩,⟨9,0,509,⟨some 26,.nilc (.tmp 17),none⟩,none⟩,⟨10,0,1021,⟨some 27,.fldA 0 (.tmp 26),none⟩,none⟩,⟨11,0,2045,⟨none,.store 2 (.tmp 27) (.tmp 19),none⟩,none⟩,⟨12,0,
 4095,⟨some 28,.nilc (.tmp 18),none⟩,none⟩,⟨13,0,8191,⟨some 29,.fldA 2 (.tmp 28),none⟩,none⟩,⟨14,0,16383,⟨none,.store 1 (.tmp 29) (.tmp 25),none⟩,none⟩])))⟩
def f184 : IFn:=⟨30,[],.seq (.region 1 [⟨some 4,.box 89 (.tmp 1),none⟩]) ( .seq (.region 0 [⟨some 6,.fldA 2 (.tmp 4),none⟩,⟨some 7,.load (some 2) (.tmp 6),none⟩,⟨some 8,.call (.func 69) [(.tmp 7)],none⟩,
 ⟨some 9,.call (.func 155) [(.tmp 8)],none⟩]) ( .seq (.draw 0 [⟨0,0,0,⟨some 10,.fldA 2 (.tmp 4),none⟩,none⟩,⟨1,0,1,⟨some 11,.fldA 0 (.tmp 10),none⟩,none⟩,⟨2,0,3,⟨some 12,.load none
 (.tmp 11),none⟩,none⟩,⟨3,0,0,⟨some 13,.mv (.tmp 0),none⟩,none⟩,⟨4,0,8,⟨some 14,.nilc (.tmp 13),none⟩,none⟩,⟨5,0,24,⟨some 15,.fldA 0 (.tmp 14),none⟩,none⟩,⟨6,0,56,⟨some 16,
 .fldA 0 (.tmp 15),none⟩,none⟩,⟨7,0,120,⟨some 17,.load none (.tmp 16),none⟩,none⟩,⟨8,0,0,⟨some 18,.mv (.tmp 2),none⟩,none⟩,⟨9,0,504,⟨some 19,.bin .add (.tmp 17) (.tmp 18),none⟩,
 none⟩,⟨10,0,1023,⟨some 20,.bin .eql (.tmp 12) (.tmp 19),none⟩,none⟩,⟨11,0,2047,⟨some 21,.call (.func 156) [(.tmp 20),(.const (.int .i64 1))],none⟩,none⟩]) ( .draw 0 [⟨0,0,0,⟨some
 22,.mv (.tmp 0),none⟩,none⟩,⟨1,0,0,⟨some 23,.fldA 2 (.tmp 4),none⟩,none⟩,⟨2,0,2,⟨some 24,.load (some 2) (.tmp 23),none⟩,none⟩,⟨3,0,0,⟨some 25,.mv (.tmp 0),none⟩,none⟩,⟨4,0,
 8,⟨some 26,.nilc (.tmp 25),none⟩,none⟩,⟨5,0,24,⟨some 27,.fldA 2 (.tmp 26),none⟩,none⟩,⟨6,0,56,⟨some 28,.load none (.tmp 27),none⟩,none⟩,⟨7,0,127,⟨some 29,.call (.func 183)
 [(.tmp 22),(.tmp 24),(.tmp 28)],none⟩,none⟩])))⟩
def f186 : IFn:=⟨41,[.tmp 4],.seq (.region 1 [⟨some 2,.box 24 (.tmp 0),none⟩,⟨some 4,.mv (.const (.slice none 0 0)),none⟩]) ( .seq (.region 0 [⟨some 9,.mv (.tmp 1),none⟩,⟨some 10,.call (.func 196) [(.tmp
 9)],none⟩,⟨some 5,.mv (.tmp 10),none⟩]) ( .seq (.region 0 [⟨some 6,.mv (.const (.slice none 0 0)),none⟩]) ( .seq (.seq (.region 0 [⟨some 11,.fldA 1 (.tmp 2),none⟩,⟨some 12,.load none (.tmp
 11),none⟩,⟨some 13,.ln (.tmp 12),none⟩,⟨some 14,.mv (.const (.int .i64 0)),none⟩]) ( .block 0 ( .loop ( .seq (.region 0 [⟨some 15,.bin .lss (.tmp 14) (.tmp 13),none⟩]) ( .seq (.cond (.tmp
 15) ( .skip) ( .exit 0)) ( .seq (.block 1 ( .seq (.region 1 [⟨some 16,.idxA none 4 (.tmp 12) (.tmp 14),none⟩,⟨some 17,.load (some 4) (.tmp 16),none⟩,⟨some 8,.alloc 181 [(.int .i64 0),(.int
 .i64 0),(.int .i64 0),(.int .i64 0)],none⟩,⟨none,.store 4 (.tmp 8) (.tmp 17),none⟩]) ( .seq (.draw 0 [⟨0,0,0,⟨some 18,.mv (.tmp 5),none⟩,none⟩,⟨1,0,0,⟨some 19,.fldA 0 (.tmp 8),
 none⟩,none⟩,⟨2,0,2,⟨some 20,.load none (.tmp 19),none⟩,none⟩,⟨3,0,7,⟨some 21,.idxA none 1 (.tmp 18) (.tmp 20),none⟩,none⟩,⟨4,0,15,⟨some 22,.load none (.tmp 21),none⟩,none⟩,⟨5,
 0,0,⟨some 23,.mv (.tmp 5),none⟩,none⟩,⟨6,0,0,⟨some 24,.fldA 1 (.tmp 8),none⟩,none⟩,⟨7,0,64,⟨some 25,.load none (.tmp 24),none⟩,none⟩,⟨8,0,224,⟨some 26,.idxA none 1 (.tmp 23)
 (.tmp 25),none⟩,none⟩,⟨9,0,480,⟨some 27,.load none (.tmp 26),none⟩,none⟩,⟨10,0,1023,⟨some 28,.bin .gtr (.tmp 22) (.tmp 27),none⟩,none⟩]) ( .cond (.tmp 28) ( .region 2 [⟨some 29,.mv
 (.tmp 6),none⟩,⟨some 30,.fldA 0 (.tmp 8),none⟩,⟨some 31,.load none (.tmp 30),none⟩,⟨some 32,.fldA 1 (.tmp 8),none⟩,⟨some 33,.load none (.tmp 32),none⟩,⟨some 34,.fldA 3 (.tmp 8),none⟩,
 ⟨some 35,.load none (.tmp 34),none⟩,⟨some 36,.build [(.int .i64 0),(.int .i64 0),(.int .i64 0)] [(0,1,(.tmp 31)),(1,1,(.tmp 33)),(2,1,(.tmp 35))],none⟩,⟨some 37,.bslice 232 3 [(.int
 .i64 0),(.int .i64 0),(.int .i64 0)] 1 [(0,3,(.tmp 36))],none⟩,⟨some 38,.app 232 3 24 [(.int .i64 0),(.int .i64 0),(.int .i64 0)] (.tmp 29) (.tmp 37),none⟩,⟨some 6,.mv (.tmp 38),none⟩])
 ( .skip))))) ( .region 0 [⟨some 39,.bin .add (.tmp 14) (.const (.int .i64 1)),none⟩,⟨some 14,.mv (.tmp 39),none⟩]))))))) ( .seq (.region 0 [⟨some 40,.mv (.tmp 6),none⟩,⟨some 4,.mv (.tmp 40),
 none⟩]) ( .ret)))))⟩
def f195 : IFn:=⟨14,[],.seq (.region 0 [⟨some 5,.mv (.tmp 0),none⟩,⟨some 6,.ln (.tmp 5),none⟩,⟨some 4,.mv (.tmp 6),none⟩]) ( .region 0 [⟨some 7,.mv (.tmp 0),none⟩,⟨some 8,.mv (.tmp 4),none⟩,⟨some 9,
 .mv (.tmp 4),none⟩,⟨some 10,.conv .u64 (.tmp 9),none⟩,⟨some 11,.call (.func 150) [(.tmp 10)],none⟩,⟨some 12,.mv (.tmp 1),none⟩,⟨some 13,.call (.func 199) [(.tmp 7),(.const (.int .i64
 0)),(.tmp 8),(.tmp 11),(.tmp 12)],none⟩])⟩
def f196 : IFn:=⟨22,[.tmp 2],.seq (.region 0 [⟨some 2,.mv (.const (.slice none 0 0)),none⟩]) ( .seq (.region 1 [⟨some 6,.mv (.tmp 0),none⟩,⟨some 7,.ln (.tmp 6),none⟩,⟨some 8,.mksl 3 1 8 [(.int .i64 0)]
 (.tmp 7) (.tmp 7),none⟩,⟨some 3,.mv (.tmp 8),none⟩]) ( .seq (.seq (.region 0 [⟨some 9,.mv (.tmp 0),none⟩,⟨some 10,.ln (.tmp 9),none⟩,⟨some 11,.mv (.const (.int .i64 0)),none⟩]) ( .block 0
 ( .loop ( .seq (.region 0 [⟨some 12,.bin .lss (.tmp 11) (.tmp 10),none⟩]) ( .seq (.cond (.tmp 12) ( .skip) ( .exit 0)) ( .seq (.block 1 ( .seq (.region 0 [⟨some 13,.mv (.tmp 11),none⟩,⟨some 14,
 .idxA none 1 (.tmp 9) (.tmp 11),none⟩,⟨some 15,.load none (.tmp 14),none⟩,⟨some 4,.mv (.tmp 13),none⟩,⟨some 5,.mv (.tmp 15),none⟩]) ( .region 0 [⟨some 16,.mv (.tmp 3),none⟩,⟨some 17,.mv
 (.tmp 5),none⟩,⟨some 18,.mv (.tmp 4),none⟩,⟨some 19,.idxA none 1 (.tmp 16) (.tmp 17),none⟩,⟨none,.store 1 (.tmp 19) (.tmp 18),none⟩]))) ( .region 0 [⟨some 20,.bin .add (.tmp 11) (.const
 (.int .i64 1)),none⟩,⟨some 11,.mv (.tmp 20),none⟩]))))))) ( .seq (.region 0 [⟨some 21,.mv (.tmp 3),none⟩,⟨some 2,.mv (.tmp 21),none⟩]) ( .ret))))⟩
end Go.Gx.A
