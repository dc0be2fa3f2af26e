/-
  Arguments: guests, relations, moves, numbers.
-/
import Derived.Test.YtamljcdnphjgaaaPb
import Derived.Test.YtamljcdnphjgaaaPx

set_option linter.all false
set_option linter.deprecated false
set_option linter.unusedSimpArgs false
set_option linter.unusedVariables false

namespace Go.Gx.A
open Go.Gx Go.Proofs
set_option maxRecDepth 100000
set_option linter.all false
theorem u58 : Try.prog.underlying 58 = some (.slice 145) := by kernel_rfl
theorem n145 : Try.prog.cellsOf 145 = 2 := by kernel_rfl
theorem fa145 : fieldsAt Try.prog 145 = [(3, 0), (3, 1)] := by kernel_rfl
theorem u32 : Try.prog.underlying 32 = some (.slice 97) := by kernel_rfl
theorem guests_of {S : AS} {d : Nat} {v : Value} (hv : S.Valid) (h : Ty Try.prog S (d + 3) 58 [v]) : ∃ P : List (Int × Int), Prs S v P ∧ P.length ≤ 9223372036854775807 := by
  obtain ⟨ls, h1, h2, h3⟩ := ty_slice u58 n145 (by omega) hv h
  have : ∃ P : List (Int × Int), ls = P.map fun p => [Value.int .i64 p.1, .int .i64 p.2] := by
    clear h1 h2
    induction ls with
    | nil => exact ⟨[], rfl⟩
    | cons x xs ih =>
      obtain ⟨l, rfl⟩ := ih fun y hy => h3 y (by simp [hy])
      obtain ⟨g1, g2⟩ := ty_struct fa145 (by simp) (h3 x (by simp))
      rw [n145] at g1
      match x, g1 with
      | [a, b], _ =>
        have ga := g2 (3, 0) (by simp)
        have gb := g2 (3, 1) (by simp)
        simp only [n3] at ga gb
        obtain ⟨n0, rfl, _⟩ := ty_int u3 ga
        obtain ⟨n1, rfl, _⟩ := ty_int u3 gb
        exact ⟨(n0, n1) :: l, rfl⟩
  obtain ⟨P, rfl⟩ := this
  exact ⟨P, h1, by rw [List.length_map] at h2; exact h2⟩
end Go.Gx.A
