/-
  The best orders, one by one.
-/
import Derived.Test.YtamljcdnphjgaaaPr
import Derived.Test.YtamljcdnphjgaaaPq

set_option linter.all false
set_option linter.deprecated false
set_option linter.unusedSimpArgs false
set_option linter.unusedVariables false

namespace Go.Gx.A
open Go.Gx Go.Proofs
set_option maxRecDepth 100000
set_option linter.all false
set_option maxHeartbeats 4000000
end Go.Gx.A

/-
  A change is looked into.
-/
namespace Go.Gx.A
open Go.Gx Go.Proofs
set_option maxRecDepth 100000
set_option linter.all false
set_option maxHeartbeats 4000000
theorem Tb.ls {S : AS} {e : TypeId} {v : Value} {rs : List Nat} {n : Nat} {M : Nat → Nat → Int} (h : Tb S e v rs n M) (hl : rs.length = n) (hn : n ≤ 1000) : Ls S v (rs.map (rowv n)) ((List.range n).map fun x => (List.range n).map fun y => M x y) := by
  refine ⟨?_, by simp [hl], by simp; omega, fun i v' l h1 h2 => ?_⟩
  · rcases h.sl with ⟨rfl, h0⟩ | ⟨p, ex, rfl, h2, h3⟩
    · have : rs = [] := by simpa using h0
      subst this
      exact ⟨⟨none, 0, rfl⟩, rfl, by simp [ownsOf]⟩
    · rw [flat1] at h2
      refine ⟨⟨some ⟨p, 0, none⟩, rs.length, by simp⟩, ?_, by simp [ownsOf]; exact h3⟩
      unfold srcCells
      simp only [List.length_map, Nat.mul_one, h2]
      split
      · rename_i h0
        have : rs = [] := List.length_eq_zero_iff.1 h0
        subst this; rfl
      · rw [if_pos (by simp), List.drop_zero, List.take_of_length_le (by simp)]
  · rw [List.getElem?_map] at h1 h2
    cases hr : rs[i]? with
    | none => rw [hr] at h1; simp at h1
    | some r =>
      rw [hr] at h1
      simp at h1
      subst h1
      obtain ⟨g1, g2, g3⟩ := h.rows i r hr
      have hi : i < n := by rw [← hl]; exact (List.getElem?_eq_some_iff.1 hr).1
      rw [List.getElem?_range hi] at h2
      simp at h2
      subst h2
      have hrow : rowc n (M i) = ints ((List.range n).map fun y => M i y) := by simp [rowc, ints]
      rw [hrow] at g1
      have := Is.row g1 g2 (by simp; omega)
      simpa [rowv] using this
def TkV.holds (v : TkV) (m : Nat) : Prop := m = v.d ∨ m = v.pm ∨ m ∈ ownsOf v.vo ∨ m ∈ ownsOf v.vf ∨ m ∈ ownsOf v.vr ∨ m ∈ ownsOf v.vp ∨ m ∈ v.ps.flatMap ownsOf
end Go.Gx.A
