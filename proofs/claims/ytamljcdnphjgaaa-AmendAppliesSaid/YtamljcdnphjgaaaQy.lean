/-
  Arguments: guests, relations, moves, numbers.
-/
import Derived.Test.YtamljcdnphjgaaaPb
import Derived.Test.YtamljcdnphjgaaaPx

set_option linter.all false
set_option linter.deprecated false
set_option linter.unusedSimpArgs false
set_option linter.unusedVariables false

namespace Go.Gx.A
open Go.Gx Go.Proofs
set_option maxRecDepth 100000
set_option linter.all false
theorem u32 : Try.prog.underlying 32 = some (.slice 97) := by kernel_rfl
theorem n97 : Try.prog.cellsOf 97 = 3 := by kernel_rfl
theorem fa97 : fieldsAt Try.prog 97 = [(3, 0), (3, 1), (3, 2)] := by kernel_rfl
theorem moves_of {S : AS} {d : Nat} {v : Value} (hv : S.Valid) (h : Ty Try.prog S (d + 3) 32 [v]) : ∃ P : List Mv, Mvs S v P := by
  obtain ⟨ls, h1, h2, h3⟩ := ty_slice u32 n97 (by omega) hv h
  have : ∃ P : List Mv, ls = mvsC P := by
    clear h1 h2
    induction ls with
    | nil => exact ⟨[], rfl⟩
    | cons x xs ih =>
      obtain ⟨l, rfl⟩ := ih fun y hy => h3 y (by simp [hy])
      obtain ⟨g1, g2⟩ := ty_struct fa97 (by simp) (h3 x (by simp))
      rw [n97] at g1
      match x, g1 with
      | [a, b, c], _ =>
        have ga := g2 (3, 0) (by simp)
        have gb := g2 (3, 1) (by simp)
        have gc := g2 (3, 2) (by simp)
        simp only [n3] at ga gb gc
        obtain ⟨n0, rfl, _⟩ := ty_int u3 ga
        obtain ⟨n1, rfl, _⟩ := ty_int u3 gb
        obtain ⟨n2, rfl, _⟩ := ty_int u3 gc
        exact ⟨(n0, n1, n2) :: l, rfl⟩
  obtain ⟨P, rfl⟩ := this
  exact ⟨P, h1, by rw [mvs_len] at h2; exact h2⟩
end Go.Gx.A
