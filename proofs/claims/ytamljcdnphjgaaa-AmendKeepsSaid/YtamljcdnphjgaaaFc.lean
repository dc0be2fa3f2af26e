/-
  The functions of this seat: the table.
-/
import Derived.Test.YtamljcdnphjgaaaFa
import Derived.Test.YtamljcdnphjgaaaFb
import Derived.Test.YtamljcdnphjgaaaGd
import Derived.Test.YtamljcdnphjgaaaRows
import Derived.KernelRfl

set_option linter.all false
set_option linter.deprecated false
set_option linter.unusedSimpArgs false
set_option linter.unusedVariables false

namespace Go.Gx.A
open Go.Gx
def taba : Nat → Option IFn
  | 3 => some f3
  | 4 => some f4
  | 5 => some f5
  | 6 => some f6
  | 7 => some f7
  | 8 => some f8
  | 9 => some f9
  | 10 => some f10
  | 11 => some f11
  | 12 => some f12
  | 13 => some f13
  | 14 => some f14
  | 15 => some f15
  | 16 => some f16
  | 17 => some f17
  | 18 => some f18
  | 23 => some f23
  | 24 => some f24
  | 25 => some f25
  | 26 => some f26
  | 27 => some f27
  | 28 => some f28
  | 29 => some f29
  | 30 => some f30
  | 31 => some f31
  | 32 => some f32
  | 33 => some f33
  | 34 => some f34
  | 35 => some f35
  | 36 => some f36
  | 37 => some f37
  | 38 => some f38
  | 39 => some f39
  | 40 => some f40
  | 41 => some f41
  | 42 => some f42
  | 43 => some f43
  | 44 => some f44
  | 45 => some f45
  | 46 => some f46
  | 47 => some f47
  | 48 => some f48
  | 49 => some f49
  | 50 => some f50
  | 51 => some f51
  | 52 => some f52
  | _ => none
def tabb : Nat → Option IFn
  | 53 => some f53
  | 54 => some f54
  | 55 => some f55
  | 56 => some f56
  | 57 => some f57
  | 58 => some f58
  | 59 => some f59
  | 68 => some f68
  | 69 => some f69
  | 70 => some f70
  | 71 => some f71
  | 72 => some f72
  | 73 => some f73
  | 74 => some f74
  | 75 => some f75
  | 76 => some f76
  | 77 => some f77
  | 79 => some f79
  | 80 => some f80
  | 81 => some f81
  | 82 => some f82
  | 83 => some f83
  | 84 => some f84
  | 85 => some f85
  | 86 => some f86
  | 87 => some f87
  | 88 => some f88
  | 89 => some f89
  | 90 => some f90
  | 91 => some f91
  | 92 => some f92
  | 93 => some f93
  | 94 => some f94
  | 95 => some f95
  | 96 => some f96
  | 97 => some f97
  | 98 => some f98
  | 99 => some f99
  | 100 => some f100
  | 101 => some f101
  | 102 => some f102
  | 103 => some f103
  | 104 => some f104
  | 105 => some f105
  | 106 => some f106
  | 107 => some f107
  | 108 => some f108
  | 109 => some f109
  | 110 => some f110
  | 111 => some f111
  | 112 => some f112
  | 113 => some f113
  | 114 => some f114
  | 115 => some f115
  | 116 => some f116
  | 117 => some f117
  | 118 => some f118
  | 121 => some f121
  | 122 => some f122
  | 134 => some f134
  | 135 => some f135
  | 136 => some f136
  | 138 => some f138
  | 139 => some f139
  | 140 => some f140
  | 141 => some f141
  | 142 => some f142
  | 143 => some f143
  | 144 => some f144
  | 145 => some f145
  | 146 => some f146
  | 147 => some f147
  | 148 => some f148
  | 151 => some f151
  | 161 => some f161
  | 162 => some f162
  | 163 => some f163
  | 185 => some f185
  | 186 => some f186
  | 196 => some f196
  | _ => none
def orT (a b : Nat → Option IFn) : Nat → Option IFn := fun k => match a k with
  | some f => some f
  | none => b k
def tab : Nat → Option IFn := orT taba tabb
end Go.Gx.A

/-
  They are the program's, part 1.
-/
namespace Go.Gx.A
open Go.Gx Go.Proofs
set_option maxRecDepth 100000
theorem c3 : compF Try.prog Try.f3 = some f3 := by kernel_rfl
theorem c4 : compF Try.prog Try.f4 = some f4 := by kernel_rfl
theorem c5 : compF Try.prog Try.f5 = some f5 := by kernel_rfl
theorem c6 : compF Try.prog Try.f6 = some f6 := by kernel_rfl
theorem c7 : compF Try.prog Try.f7 = some f7 := by kernel_rfl
theorem c8 : compF Try.prog Try.f8 = some f8 := by kernel_rfl
theorem c9 : compF Try.prog Try.f9 = some f9 := by kernel_rfl
theorem c10 : compF Try.prog Try.f10 = some f10 := by kernel_rfl
theorem c11 : compF Try.prog Try.f11 = some f11 := by kernel_rfl
theorem c12 : compF Try.prog Try.f12 = some f12 := by kernel_rfl
theorem c13 : compF Try.prog Try.f13 = some f13 := by kernel_rfl
theorem c14 : compF Try.prog Try.f14 = some f14 := by kernel_rfl
theorem c15 : compF Try.prog Try.f15 = some f15 := by kernel_rfl
theorem c16 : compF Try.prog Try.f16 = some f16 := by kernel_rfl
theorem c17 : compF Try.prog Try.f17 = some f17 := by kernel_rfl
theorem c18 : compF Try.prog Try.f18 = some f18 := by kernel_rfl
theorem c23 : compF Try.prog Try.f23 = some f23 := by kernel_rfl
theorem c24 : compF Try.prog Try.f24 = some f24 := by kernel_rfl
theorem c25 : compF Try.prog Try.f25 = some f25 := by kernel_rfl
theorem c26 : compF Try.prog Try.f26 = some f26 := by kernel_rfl
theorem c27 : compF Try.prog Try.f27 = some f27 := by kernel_rfl
theorem c28 : compF Try.prog Try.f28 = some f28 := by kernel_rfl
theorem c29 : compF Try.prog Try.f29 = some f29 := by kernel_rfl
theorem c30 : compF Try.prog Try.f30 = some f30 := by kernel_rfl
theorem c31 : compF Try.prog Try.f31 = some f31 := by kernel_rfl
theorem c32 : compF Try.prog Try.f32 = some f32 := by kernel_rfl
theorem c33 : compF Try.prog Try.f33 = some f33 := by kernel_rfl
theorem c34 : compF Try.prog Try.f34 = some f34 := by kernel_rfl
theorem c35 : compF Try.prog Try.f35 = some f35 := by kernel_rfl
theorem c36 : compF Try.prog Try.f36 = some f36 := by kernel_rfl
theorem c37 : compF Try.prog Try.f37 = some f37 := by kernel_rfl
theorem c38 : compF Try.prog Try.f38 = some f38 := by kernel_rfl
theorem c39 : compF Try.prog Try.f39 = some f39 := by kernel_rfl
theorem c40 : compF Try.prog Try.f40 = some f40 := by kernel_rfl
theorem c41 : compF Try.prog Try.f41 = some f41 := by kernel_rfl
theorem c42 : compF Try.prog Try.f42 = some f42 := by kernel_rfl
theorem c43 : compF Try.prog Try.f43 = some f43 := by kernel_rfl
theorem c44 : compF Try.prog Try.f44 = some f44 := by kernel_rfl
theorem c45 : compF Try.prog Try.f45 = some f45 := by kernel_rfl
theorem c46 : compF Try.prog Try.f46 = some f46 := by kernel_rfl
theorem c47 : compF Try.prog Try.f47 = some f47 := by kernel_rfl
theorem c48 : compF Try.prog Try.f48 = some f48 := by kernel_rfl
theorem c49 : compF Try.prog Try.f49 = some f49 := by kernel_rfl
theorem c50 : compF Try.prog Try.f50 = some f50 := by kernel_rfl
theorem c51 : compF Try.prog Try.f51 = some f51 := by kernel_rfl
theorem c52 : compF Try.prog Try.f52 = some f52 := by kernel_rfl
end Go.Gx.A
