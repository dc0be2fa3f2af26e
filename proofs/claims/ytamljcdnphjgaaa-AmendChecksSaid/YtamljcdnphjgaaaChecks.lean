/-
  AmendChecks returns true for every change, and its argument reads as before. No condition.
-/
import Derived.Test.YtamljcdnphjgaaaPb

set_option linter.all false
set_option linter.deprecated false
set_option linter.unusedSimpArgs false
set_option linter.unusedVariables false

/-
  AmendChecks: the row.
-/
namespace Go.Proofs.Ytamljcdnphjgaaa
open Go.Gx Go.Gx.A Go.Proofs
open Go.ChangeShapes Go.WideShapes Go.ChangeAt Go.RowKit
set_option maxRecDepth 100000
set_option linter.all false

theorem checks_law (S : AS) (vs : List Value) (hS : S.Valid) (h : TyArgs Try.prog S 6 [27] vs) : Gx.Call A.G 3 vs S fun e _ => e = .ret (.bool true) := by
  obtain ⟨v0, _, rfl, h0, h⟩ := tyArgs_cons h
  obtain rfl := tyArgs_nil h
  obtain ⟨c, va, vo, rfl, hc⟩ := chg_of hS h0
  exact amendChecks_walk hc

theorem checks_lifted (os : Os) (started : os.Started) (H : Type) (enc : TypeId × Value → H) :
    ReturnsInHanded {} Try.checked os 3 .any (Rows.amendChecksSpec.pre6 enc Try.prog Try.f3 Rows.amendChecksRow.domain false) (Rows.amendChecksSpec.post enc Try.prog Try.f3 false true false false) :=
  law_returns (C := Try.checked) (G := A.G) (d := 6) (ts := [27]) (tb := 4) tabOK extOK mixed started own (by kernel_rfl) Try.func3
    (ChangeSpec.witness6 (enc := enc) (C := Try.checked) false ⟨#[], #[.agg #[.int .i64 0, .slice none 0 0, .slice none 0 0, .int .i64 0]], []⟩ 8 (by kernel_rfl) (by kernel_rfl) (by kernel_rfl) (by kernel_rfl))
    laidOut rfl (by kernel_rfl) u4 (by kernel_rfl) (by
      intro t ht
      simp only [List.mem_cons, List.not_mem_nil, or_false] at ht
      rcases ht with rfl <;> exact ⟨by kernel_rfl, of_decide_eq_true (by kernel_rfl), by kernel_rfl⟩)
    (by
      intro ds hl
      match ds, hl with
      | [_], _ => exact ⟨rfl, rfl, rfl⟩)
    checks_law

theorem checks_j1 : Try.prog.inPlace 3 = ["slices.overlaps[int]"] := by kernel_rfl
theorem checks_j2 : Try.prog.unfollowed 3 = true := by kernel_rfl
theorem checks_j3 : Try.prog.recurses 3 = true := by kernel_rfl
theorem checks_j4 : Try.prog.varsNamed 3 = [] := by kernel_rfl
theorem checks_closed : joinedFacts Try.prog 3 Try.f3 Rows.amendChecksSpec Rows.amendChecksRow = true := by
  unfold joinedFacts
  rw [checks_j1, checks_j2, checks_j3, checks_j4]
  kernel_rfl
theorem checks_named : Try.prog.funcNamed Rows.amendChecksRow.func = some 3 := by kernel_rfl
theorem checks_holds : Rows.AmendChecksSaid :=
  OpenClaim.holds_of_wide 3 Try.f3 rfl rfl rfl rfl rfl rfl rfl ⟨rfl, rfl, rfl, rfl, rfl⟩ rfl rfl rfl rfl rfl checks_named Try.func3 checks_closed
    (of_decide_eq_true (by kernel_rfl)) (by unfold Func.isWrapper; first | (rw [if_pos (by decide +kernel)]; kernel_rfl) | (rw [if_neg (by decide +kernel)]; exact ⟨rfl, rfl⟩))
    (fun os started H enc _ => checks_lifted os started H enc)
#print axioms checks_holds
end Go.Proofs.Ytamljcdnphjgaaa
