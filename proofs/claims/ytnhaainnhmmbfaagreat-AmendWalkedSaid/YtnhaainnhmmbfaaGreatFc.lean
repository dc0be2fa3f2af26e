/-
  The functions of this seat: the table.
-/
import Derived.Test.YtnhaainnhmmbfaaGreatFa
import Derived.Test.YtnhaainnhmmbfaaGreatFb
import Derived.Test.YtnhaainnhmmbfaaGreatGh
import Derived.Test.YtnhaainnhmmbfaaGreatGk
import Derived.Test.YtnhaainnhmmbfaaGreatRows
import Derived.KernelRfl
set_option linter.all false
set_option linter.deprecated false
namespace Go.Gx.Z
open Go.Gx
def taba : Nat→Option IFn
 | 4=>some f4
 | 5=>some f5
 | 6=>some f6
 | 10=>some f10
 | 11=>some f11
 | 12=>some f12
 | 13=>some f13
 | 14=>some f14
 | 15=>some f15
 | 16=>some f16
 | 17=>some f17
 | 18=>some f18
 | 20=>some f20
 | 21=>some f21
 | 23=>some f23
 | 24=>some f24
 | 25=>some f25
 | 26=>some f26
 | 27=>some f27
 | 29=>some f29
 | 30=>some f30
 | 31=>some f31
 | 32=>some f32
 | 33=>some f33
 | 34=>some f34
 | 35=>some f35
 | 36=>some f36
 | 37=>some f37
 | 38=>some f38
 | 39=>some f39
 | 40=>some f40
 | 41=>some f41
 | 42=>some f42
 | 43=>some f43
 | 44=>some f44
 | 45=>some f45
 | 46=>some f46
 | 47=>some f47
 | 48=>some f48
 | 49=>some f49
 | 50=>some f50
 | 52=>some f52
 | 53=>some f53
 | _=>none
def tabb : Nat→Option IFn
 | 54=>some f54
 | 55=>some f55
 | 56=>some f56
 | 57=>some f57
 | 58=>some f58
 | 59=>some f59
 | 60=>some f60
 | 61=>some f61
 | 62=>some f62
 | 63=>some f63
 | 64=>some f64
 | 65=>some f65
 | 67=>some f67
 | 68=>some f68
 | 69=>some f69
 | 70=>some f70
 | 71=>some f71
 | 72=>some f72
 | 73=>some f73
 | 74=>some f74
 | 75=>some f75
 | 76=>some f76
 | 79=>some f79
 | 80=>some f80
 | 81=>some f81
 | 82=>some f82
 | 83=>some f83
 | 84=>some f84
 | 85=>some f85
 | 86=>some f86
 | 87=>some f87
 | 89=>some f89
 | 90=>some f90
 | 91=>some f91
 | 92=>some f92
 | 93=>some f93
 | 95=>some f95
 | 96=>some f96
 | 97=>some f97
 | 98=>some f98
 | 99=>some f99
 | 100=>some f100
 | 102=>some f102
 | 105=>some f105
 | 106=>some f106
 | _=>none
def orT (a b : Nat→Option IFn) : Nat→Option IFn:=fun k=>match a k with
 | some f=>some f
 | none=>b k
def tab : Nat→Option IFn:=orT taba tabb

def insX : Nat→List Value→AS→Option (Value × AS):=fun k args S=>if k=51 then insV 3 args S else none
def arrX : Nat→List Value→AS→Option (Value × AS):=fun k args S=>if k=97 then asortV 80 86 args S else none

open Go.Gx Go.Proofs
set_option maxRecDepth 100000
theorem c4 : compF Tryz.prog Tryz.f4=some f4:=by kernel_rfl
theorem c5 : compF Tryz.prog Tryz.f5=some f5:=by kernel_rfl
theorem c6 : compF Tryz.prog Tryz.f6=some f6:=by kernel_rfl
theorem c10 : compF Tryz.prog Tryz.f10=some f10:=by kernel_rfl
theorem c11 : compF Tryz.prog Tryz.f11=some f11:=by kernel_rfl
theorem c12 : compF Tryz.prog Tryz.f12=some f12:=by kernel_rfl
theorem c13 : compF Tryz.prog Tryz.f13=some f13:=by kernel_rfl
theorem c14 : compF Tryz.prog Tryz.f14=some f14:=by kernel_rfl
theorem c15 : compF Tryz.prog Tryz.f15=some f15:=by kernel_rfl
theorem c16 : compF Tryz.prog Tryz.f16=some f16:=by kernel_rfl
theorem c17 : compF Tryz.prog Tryz.f17=some f17:=by kernel_rfl
theorem c18 : compF Tryz.prog Tryz.f18=some f18:=by kernel_rfl
theorem c20 : compF Tryz.prog Tryz.f20=some f20:=by kernel_rfl
theorem c21 : compF Tryz.prog Tryz.f21=some f21:=by kernel_rfl
theorem c23 : compF Tryz.prog Tryz.f23=some f23:=by kernel_rfl
theorem c24 : compF Tryz.prog Tryz.f24=some f24:=by kernel_rfl
theorem c25 : compF Tryz.prog Tryz.f25=some f25:=by kernel_rfl
theorem c26 : compF Tryz.prog Tryz.f26=some f26:=by kernel_rfl
theorem c27 : compF Tryz.prog Tryz.f27=some f27:=by kernel_rfl
theorem c29 : compF Tryz.prog Tryz.f29=some f29:=by kernel_rfl
theorem c30 : compF Tryz.prog Tryz.f30=some f30:=by kernel_rfl
theorem c31 : compF Tryz.prog Tryz.f31=some f31:=by kernel_rfl
theorem c32 : compF Tryz.prog Tryz.f32=some f32:=by kernel_rfl
theorem c33 : compF Tryz.prog Tryz.f33=some f33:=by kernel_rfl
theorem c34 : compF Tryz.prog Tryz.f34=some f34:=by kernel_rfl
theorem c35 : compF Tryz.prog Tryz.f35=some f35:=by kernel_rfl
theorem c36 : compF Tryz.prog Tryz.f36=some f36:=by kernel_rfl
theorem c37 : compF Tryz.prog Tryz.f37=some f37:=by kernel_rfl
theorem c38 : compF Tryz.prog Tryz.f38=some f38:=by kernel_rfl
theorem c39 : compF Tryz.prog Tryz.f39=some f39:=by kernel_rfl
theorem c40 : compF Tryz.prog Tryz.f40=some f40:=by kernel_rfl
theorem c41 : compF Tryz.prog Tryz.f41=some f41:=by kernel_rfl
theorem c42 : compF Tryz.prog Tryz.f42=some f42:=by kernel_rfl
theorem c43 : compF Tryz.prog Tryz.f43=some f43:=by kernel_rfl
theorem c44 : compF Tryz.prog Tryz.f44=some f44:=by kernel_rfl
theorem c45 : compF Tryz.prog Tryz.f45=some f45:=by kernel_rfl
theorem c46 : compF Tryz.prog Tryz.f46=some f46:=by kernel_rfl
theorem c47 : compF Tryz.prog Tryz.f47=some f47:=by kernel_rfl
theorem c48 : compF Tryz.prog Tryz.f48=some f48:=by kernel_rfl
theorem c49 : compF Tryz.prog Tryz.f49=some f49:=by kernel_rfl
theorem c50 : compF Tryz.prog Tryz.f50=some f50:=by kernel_rfl
theorem c52 : compF Tryz.prog Tryz.f52=some f52:=by kernel_rfl
theorem c53 : compF Tryz.prog Tryz.f53=some f53:=by kernel_rfl
end Go.Gx.Z
