/-
  AmendAmends returns true for every change, and its argument reads as before. No condition.
-/
import Derived.Test.YtamljcdnphjgaaaPu
import Derived.Test.YtamljcdnphjgaaaPb

set_option linter.all false
set_option linter.deprecated false
set_option linter.unusedSimpArgs false
set_option linter.unusedVariables false

/-
  AmendAmends: the row.
-/
namespace Go.Proofs.Ytamljcdnphjgaaa
open Go.Gx Go.Gx.A Go.Proofs
open Go.ChangeShapes Go.WideShapes Go.ChangeAt Go.RowKit
set_option maxRecDepth 100000
set_option linter.all false
theorem amends_law (S : AS) (vs : List Value) (hS : S.Valid) (h : TyArgs Try.prog S 6 [27] vs) : Gx.Call A.G 6 vs S fun e _ => e = .ret (.bool true) := by
  obtain ⟨v0, _, rfl, h0, h⟩ := tyArgs_cons h
  obtain rfl := tyArgs_nil h
  obtain ⟨c, va, vo, rfl, hc⟩ := chg_of hS h0
  exact amends_walk hc
theorem amends_lifted (os : Os) (started : os.Started) (H : Type) (enc : TypeId × Value → H) :
    ReturnsInHanded {} Try.checked os 6 .any (Rows.amendAmendsSpec.pre6 enc Try.prog Try.f6 Rows.amendAmendsRow.domain false) (Rows.amendAmendsSpec.post enc Try.prog Try.f6 false true false false) :=
  law_returns (C := Try.checked) (G := A.G) (d := 6) (ts := [27]) (tb := 4) tabOK extOK mixed started own (by kernel_rfl) Try.func6
    (ChangeSpec.witness6 (enc := enc) (C := Try.checked) false ⟨#[], #[.agg #[.int .i64 0, .slice none 0 0, .slice none 0 0, .int .i64 0]], []⟩ 8 (by kernel_rfl) (by kernel_rfl) (by kernel_rfl) (by kernel_rfl))
    laidOut rfl (by kernel_rfl) u4 (by kernel_rfl) (by
      intro t ht
      simp only [List.mem_cons, List.not_mem_nil, or_false] at ht
      rcases ht with rfl <;> exact ⟨by kernel_rfl, of_decide_eq_true (by kernel_rfl), by kernel_rfl⟩)
    (by
      intro ds hl
      match ds, hl with
      | [_], _ => exact ⟨rfl, rfl, rfl⟩)
    amends_law
theorem amends_j1 : Try.prog.inPlace 6 = Rows.amendAmendsRow.inPlace := by kernel_rfl
theorem amends_j2 : Try.prog.unfollowed 6 = Rows.amendAmendsRow.unfollowed := by kernel_rfl
theorem amends_j3 : Try.prog.recurses 6 = Rows.amendAmendsRow.recurses := by kernel_rfl
theorem amends_j4 : Try.prog.varsNamed 6 = Rows.amendAmendsRow.named := by kernel_rfl
theorem amends_closed : joinedFacts Try.prog 6 Try.f6 Rows.amendAmendsSpec Rows.amendAmendsRow = true := by
  unfold joinedFacts
  rw [amends_j1, amends_j2, amends_j3, amends_j4]
  kernel_rfl
theorem amends_named : Try.prog.funcNamed Rows.amendAmendsRow.func = some 6 := by kernel_rfl
theorem amends_holds : Rows.AmendAmendsSaid :=
  OpenClaim.holds_of_wide 6 Try.f6 rfl rfl rfl rfl rfl rfl rfl ⟨rfl, rfl, rfl, rfl, rfl⟩ rfl rfl rfl rfl rfl amends_named Try.func6 amends_closed
    (of_decide_eq_true (by kernel_rfl)) (by unfold Func.isWrapper; first | (rw [if_pos (by decide +kernel)]; kernel_rfl) | (rw [if_neg (by decide +kernel)]; exact ⟨rfl, rfl⟩))
    (fun os started H enc _ => amends_lifted os started H enc)
#print axioms amends_holds
end Go.Proofs.Ytamljcdnphjgaaa
