/-
  Moves lead from one list to the other, and how many there are (plain).
-/
import Derived.Test.YtamljcdnphjgaaaPx
import Derived.Test.YtamljcdnphjgaaaPm
import Derived.Test.YtamljcdnphjgaaaPu

set_option linter.all false
set_option linter.deprecated false
set_option linter.unusedSimpArgs false
set_option linter.unusedVariables false

namespace Go.Gx.A
open Go.Gx Go.Proofs
set_option maxRecDepth 100000
set_option linter.all false
end Go.Gx.A

/-
  AmendLeads.
-/
namespace Go.Gx.A
open Go.Gx Go.Proofs
set_option maxRecDepth 100000
set_option linter.all false
set_option maxHeartbeats 2000000
theorem mvs_flen : ∀ (l : List Mv), (mvsC l).flatten.length = l.length * 3
  | [] => rfl
  | a :: l => by
    have := mvs_flen l
    simp only [mvsC, List.map_cons, List.flatten_cons, List.length_append, List.length_cons] at this ⊢
    rw [this]
    simp [mvC]
    omega
theorem Ms.mvs {S : AS} {v : Value} {l : List Mv} (h : Ms S v l) (hl : l.length ≤ 100000) : Mvs S v l := by
  refine ⟨?_, by omega⟩
  rcases h with ⟨rfl, hn⟩ | ⟨p, ex, rfl, h2, h3⟩
  · have : l = [] := List.map_eq_nil_iff.1 hn
    subst this
    exact ⟨⟨none, 0, rfl⟩, rfl, mvs_uni [], by simp [ownsOf]⟩
  · refine ⟨⟨_, _, rfl⟩, ?_, mvs_uni l, by simpa [ownsOf] using h3⟩
    have hf := mvs_flen l
    unfold srcCells
    simp only [h2, mvs_len]
    by_cases h0 : l.length * 3 = 0
    · rw [if_pos h0]
      have : l = [] := List.length_eq_zero_iff.1 (by omega)
      subst this
      rfl
    · rw [if_neg h0, if_pos (by omega), List.drop_zero, ← hf, List.take_length]
end Go.Gx.A
