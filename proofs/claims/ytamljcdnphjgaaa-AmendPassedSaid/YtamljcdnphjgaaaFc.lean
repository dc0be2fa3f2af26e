/-
  The functions of this seat: the table.
-/
import Derived.Test.YtamljcdnphjgaaaFa
import Derived.Test.YtamljcdnphjgaaaFb
import Derived.Test.YtamljcdnphjgaaaGh
import Derived.Test.YtamljcdnphjgaaaGk
import Derived.Test.YtamljcdnphjgaaaRows
import Derived.KernelRfl
set_option linter.all false
set_option linter.deprecated false
set_option linter.unusedSimpArgs false
set_option linter.unusedVariables false
namespace Go.Gx.A
open Go.Gx
def taba : Nat→Option IFn
 | 22=>some f22
 | 23=>some f23
 | 24=>some f24
 | 26=>some f26
 | 29=>some f29
 | 31=>some f31
 | 34=>some f34
 | 37=>some f37
 | 40=>some f40
 | 58=>some f58
 | 59=>some f59
 | 66=>some f66
 | 67=>some f67
 | 68=>some f68
 | 69=>some f69
 | 72=>some f72
 | 73=>some f73
 | 74=>some f74
 | 75=>some f75
 | 76=>some f76
 | 77=>some f77
 | 84=>some f84
 | 85=>some f85
 | 88=>some f88
 | 91=>some f91
 | 93=>some f93
 | _=>none
def tabb : Nat→Option IFn
 | 94=>some f94
 | 95=>some f95
 | 96=>some f96
 | 97=>some f97
 | 98=>some f98
 | 99=>some f99
 | 103=>some f103
 | 115=>some f115
 | 118=>some f118
 | 121=>some f121
 | 122=>some f122
 | 127=>some f127
 | 128=>some f128
 | 129=>some f129
 | 130=>some f130
 | 131=>some f131
 | 132=>some f132
 | 133=>some f133
 | 134=>some f134
 | 135=>some f135
 | 136=>some f136
 | 140=>some f140
 | 142=>some f142
 | 143=>some f143
 | 144=>some f144
 | 147=>some f147
 | 148=>some f148
 | 151=>some f151
 | 155=>some f155
 | 156=>some f156
 | 157=>some f157
 | 158=>some f158
 | 159=>some f159
 | 160=>some f160
 | 162=>some f162
 | 163=>some f163
 | 182=>some f182
 | 183=>some f183
 | 184=>some f184
 | 186=>some f186
 | 195=>some f195
 | 196=>some f196
 | _=>none
def orT (a b : Nat→Option IFn) : Nat→Option IFn:=fun k=>match a k with
 | some f=>some f
 | none=>b k
def tab : Nat→Option IFn:=orT taba tabb

def insX : Nat→List Value→AS→Option (Value × AS):=fun k args S=>if k=78 then insV 3 args S else none
def sortX : Nat→List Value→AS→Option (Value × AS):=fun k args S=>if k=119 then sortV 120 81 args S else none
def shiftX : Nat→List Value→AS→Option (Value × AS):=fun k args S=>if k=125 then tsortV 126 86 args S else none
def growX : Nat→List Value→AS→Option (Value × AS):=fun k args S=>if k=152 then growV 3 args S else none
def arrX : Nat→List Value→AS→Option (Value × AS):=fun k args S=>if k=195 then asortV 135 181 args S else none

open Go.Gx Go.Proofs
set_option maxRecDepth 100000
theorem c22 : compF Try.prog Try.f22=some f22:=by kernel_rfl
theorem c23 : compF Try.prog Try.f23=some f23:=by kernel_rfl
theorem c24 : compF Try.prog Try.f24=some f24:=by kernel_rfl
theorem c26 : compF Try.prog Try.f26=some f26:=by kernel_rfl
theorem c29 : compF Try.prog Try.f29=some f29:=by kernel_rfl
theorem c31 : compF Try.prog Try.f31=some f31:=by kernel_rfl
theorem c34 : compF Try.prog Try.f34=some f34:=by kernel_rfl
theorem c37 : compF Try.prog Try.f37=some f37:=by kernel_rfl
theorem c40 : compF Try.prog Try.f40=some f40:=by kernel_rfl
theorem c58 : compF Try.prog Try.f58=some f58:=by kernel_rfl
theorem c59 : compF Try.prog Try.f59=some f59:=by kernel_rfl
theorem c66 : compF Try.prog Try.f66=some f66:=by kernel_rfl
theorem c67 : compF Try.prog Try.f67=some f67:=by kernel_rfl
theorem c68 : compF Try.prog Try.f68=some f68:=by kernel_rfl
theorem c69 : compF Try.prog Try.f69=some f69:=by kernel_rfl
theorem c72 : compF Try.prog Try.f72=some f72:=by kernel_rfl
theorem c73 : compF Try.prog Try.f73=some f73:=by kernel_rfl
theorem c74 : compF Try.prog Try.f74=some f74:=by kernel_rfl
theorem c75 : compF Try.prog Try.f75=some f75:=by kernel_rfl
theorem c76 : compF Try.prog Try.f76=some f76:=by kernel_rfl
theorem c77 : compF Try.prog Try.f77=some f77:=by kernel_rfl
theorem c84 : compF Try.prog Try.f84=some f84:=by kernel_rfl
theorem c85 : compF Try.prog Try.f85=some f85:=by kernel_rfl
theorem c88 : compF Try.prog Try.f88=some f88:=by kernel_rfl
theorem c91 : compF Try.prog Try.f91=some f91:=by kernel_rfl
theorem c93 : compF Try.prog Try.f93=some f93:=by kernel_rfl
end Go.Gx.A
