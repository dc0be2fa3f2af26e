/-
  Arguments: guests, relations, moves, numbers.
-/
import Derived.Test.YtamljcdnphjgaaaPb
import Derived.Test.YtamljcdnphjgaaaPx

set_option linter.all false
set_option linter.deprecated false
set_option linter.unusedSimpArgs false
set_option linter.unusedVariables false

namespace Go.Gx.A
open Go.Gx Go.Proofs
set_option maxRecDepth 100000
set_option linter.all false
theorem u32 : Try.prog.underlying 32 = some (.slice 97) := by kernel_rfl
theorem rel_of {S : AS} {d : Nat} {v : Value} (hv : S.Valid) (h : TyV Try.prog S (d + 4) 24 v) : ∃ N l va, v = .agg #[.int .i64 N, va] ∧ As S va l := by
  obtain ⟨cs, rfl, hc⟩ := tyV_struct fa24 (by simp) h
  obtain ⟨k1, k2⟩ := ty_struct fa24 (by simp) hc
  rw [n24] at k1
  match cs, k1 with
  | [a, b], _ =>
    have ka := k2 (3, 0) (by simp)
    have kb := k2 (22, 1) (by simp)
    simp only [n22, n3] at ka kb
    obtain ⟨n0, rfl, w0⟩ := ty_int u3 ka
    obtain ⟨m, hm⟩ := as_of hv kb
    exact ⟨n0, m, b, rfl, hm⟩
end Go.Gx.A
