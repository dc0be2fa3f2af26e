/-
  Checking a change: the program's way and the reference's.
-/
import Derived.Test.YtamljcdnphjgaaaPa
import Derived.Test.YtamljcdnphjgaaaGf
import Derived.Test.YtamljcdnphjgaaaGg

set_option linter.all false
set_option linter.deprecated false
set_option linter.unusedSimpArgs false
set_option linter.unusedVariables false

namespace Go.Gx.A
open Go.Gx Go.Proofs
set_option maxRecDepth 100000
set_option linter.all false
set_option maxHeartbeats 4000000
structure Chg where
  n : Int
  arrows : List Arw
  old : List Int
  passed : Int
structure ChgAt (S : AS) (va vo : Value) (c : Chg) : Prop where
  arrows : As S va c.arrows
  old : Is S vo c.old
  n1 : -9223372036854775808 ≤ c.n
  n2 : c.n ≤ 9223372036854775807
  p1 : -9223372036854775808 ≤ c.passed
  p2 : c.passed ≤ 9223372036854775807
def Chg.val (c : Chg) (va vo : Value) : Value := .agg #[.int .i64 c.n, va, vo, .int .i64 c.passed]
theorem checkR_pos {N : Int} {l : List Arw} (h : checkR N l = 0) : 0 ≤ N ∧ N ≤ 24 ∧ arrsOk N none l = true := by
  unfold checkR at h
  split at h
  · cases h
  · split at h
    · cases h
    · split at h
      · rename_i h3; exact ⟨by omega, by omega, h3⟩
      · cases h
end Go.Gx.A

/-
  Arguments of this seat; AmendChecks.
-/
namespace Go.Gx.A
open Go.Gx Go.Proofs
set_option maxRecDepth 100000
set_option linter.all false
theorem u3 : Try.prog.underlying 3 = some (.int .i64) := by kernel_rfl
theorem u4 : Try.prog.underlying 4 = some .bool := by kernel_rfl
theorem u22 : Try.prog.underlying 22 = some (.slice 181) := by kernel_rfl
theorem u25 : Try.prog.underlying 25 = some (.slice 3) := by kernel_rfl
theorem n3 : Try.prog.cellsOf 3 = 1 := by kernel_rfl
theorem n181 : Try.prog.cellsOf 181 = 4 := by kernel_rfl
theorem n22 : Try.prog.cellsOf 22 = 1 := by kernel_rfl
theorem n24 : Try.prog.cellsOf 24 = 2 := by kernel_rfl
theorem fa24 : fieldsAt Try.prog 24 = [(3, 0), (22, 1)] := by kernel_rfl
theorem fa181 : fieldsAt Try.prog 181 = [(3, 0), (3, 1), (3, 2), (3, 3)] := by kernel_rfl
theorem is_of {P : Program} {S : AS} {d : Nat} {t e : TypeId} {v : Value} (hu : P.underlying t = some (.slice e)) (he : P.underlying e = some (.int .i64)) (h1 : P.cellsOf e = 1) (hv : S.Valid) (h : Ty P S (d + 2) t [v]) :
    ∃ l : List Int, Is S v l ∧ l.length ≤ maxLen ∧ ∀ x ∈ l, -9223372036854775808 ≤ x ∧ x ≤ 9223372036854775807 := by
  obtain ⟨cs, g1, g2, g3⟩ := ty_slice1 hu h1 hv h
  obtain ⟨l, rfl, hl⟩ := ints_of fun c hc => ty_int he (g3 c hc)
  have hlen : l.length ≤ maxLen := by simpa using g2
  have hcs : l.map (Value.int .i64 ·) = ints l := rfl
  rw [hcs] at g1
  refine ⟨l, ⟨hlen, ?_⟩, hlen, hl⟩
  have hc := g1.cells
  obtain ⟨a0, c0, hsh⟩ := g1.shape
  rw [ints_len] at hsh hc
  unfold Ty at h
  rw [hu] at h
  simp only [List.cons.injEq, and_true] at h
  rcases h with rfl | rfl | ⟨n, len, cap, cells, et, rfl, h2, h3, h4, h5, h6, h7⟩
  · have hl0 : l.length = 0 := by injection hsh with _ h _; exact h.symm
    exact .inl ⟨List.length_eq_zero_iff.1 hl0, .inl rfl⟩
  · have hl0 : l.length = 0 := by injection hsh with _ h _; exact h.symm
    exact .inl ⟨List.length_eq_zero_iff.1 hl0, .inr ⟨_, _, _, rfl⟩⟩
  · have hl0 : l.length = len := by injection hsh with _ h _; exact h.symm
    subst hl0
    rw [h1, Nat.mul_one] at h6
    refine .inr ⟨n, 0, cap, cells, et, false, true, rfl, h3, h2, hv _ _ h2 (by simp), .inl rfl, by omega, ?_⟩
    simp only [srcCells, Nat.mul_one, h2] at hc
    split at hc
    · rename_i h0
      have : l = [] := List.length_eq_zero_iff.1 h0
      subst this; simp
    · rw [if_pos (by omega)] at hc
      simp only [Option.some.injEq, Prod.mk.injEq, true_and] at hc
      exact hc
theorem as_of {S : AS} {d : Nat} {v : Value} (hv : S.Valid) (h : Ty Try.prog S (d + 3) 22 [v]) : ∃ l : List Arw, As S v l := by
  obtain ⟨ls, h1, h2, h3⟩ := ty_slice u22 n181 (by omega) hv h
  have : ∃ l : List Arw, ls = l.map Arw.cells := by
    clear h1 h2
    induction ls with
    | nil => exact ⟨[], rfl⟩
    | cons x xs ih =>
      obtain ⟨l, rfl⟩ := ih fun y hy => h3 y (by simp [hy])
      obtain ⟨g1, g2⟩ := ty_struct fa181 (by simp) (h3 x (by simp))
      rw [n181] at g1
      match x, g1 with
      | [a, b, c, e], _ =>
        have ga := g2 (3, 0) (by simp)
        have gb := g2 (3, 1) (by simp)
        have gc := g2 (3, 2) (by simp)
        have gd := g2 (3, 3) (by simp)
        simp only [n3] at ga gb gc gd
        obtain ⟨n0, rfl, _⟩ := ty_int u3 ga
        obtain ⟨n1, rfl, _⟩ := ty_int u3 gb
        obtain ⟨n2, rfl, _⟩ := ty_int u3 gc
        obtain ⟨n3, rfl, _⟩ := ty_int u3 gd
        exact ⟨⟨n0, n1, n2, n3⟩ :: l, rfl⟩
  obtain ⟨l, rfl⟩ := this
  exact ⟨l, h1, by rw [List.length_map] at h2; exact h2⟩
theorem tyV_struct {P : Program} {S : AS} {d : Nat} {t : TypeId} {v : Value} {L : List (TypeId × Nat)} (hL : fieldsAt P t = L) (hne : L ≠ []) (h : TyV P S d t v) : ∃ cs, v = .agg cs.toArray ∧ Ty P S d t cs := by
  subst hL
  unfold fieldsAt at hne
  unfold TyV at h
  cases hu : P.underlying t with
  | none => rw [hu] at hne; exact absurd rfl hne
  | some u =>
    rw [hu] at h hne
    cases u with
    | struct fs => exact h
    | _ => exact absurd rfl hne
end Go.Gx.A
