/-
  AmendStays returns true for every change, and its argument reads as before. No condition.
-/
import Derived.Test.YtamljcdnphjgaaaPv
import Derived.Test.YtamljcdnphjgaaaPb

set_option linter.all false
set_option linter.deprecated false
set_option linter.unusedSimpArgs false
set_option linter.unusedVariables false

/-
  AmendStays: the row.
-/
namespace Go.Proofs.Ytamljcdnphjgaaa
open Go.Gx Go.Gx.A Go.Proofs
open Go.ChangeShapes Go.WideShapes Go.ChangeAt Go.RowKit
set_option maxRecDepth 100000
set_option linter.all false
theorem stays_law (S : AS) (vs : List Value) (hS : S.Valid) (h : TyArgs Try.prog S 6 [27] vs) : Gx.Call A.G 8 vs S fun e _ => e = .ret (.bool true) := by
  obtain ⟨v0, _, rfl, h0, h⟩ := tyArgs_cons h
  obtain rfl := tyArgs_nil h
  obtain ⟨c, va, vo, rfl, hc⟩ := chg_of hS h0
  exact stays_walk hc
theorem stays_lifted (os : Os) (started : os.Started) (H : Type) (enc : TypeId × Value → H) :
    ReturnsInHanded {} Try.checked os 8 .any (Rows.amendStaysSpec.pre6 enc Try.prog Try.f8 Rows.amendStaysRow.domain false) (Rows.amendStaysSpec.post enc Try.prog Try.f8 false true false false) :=
  law_returns (C := Try.checked) (G := A.G) (d := 6) (ts := [27]) (tb := 4) tabOK extOK mixed started own (by kernel_rfl) Try.func8
    (ChangeSpec.witness6 (enc := enc) (C := Try.checked) false ⟨#[], #[.agg #[.int .i64 0, .slice none 0 0, .slice none 0 0, .int .i64 0]], []⟩ 8 (by kernel_rfl) (by kernel_rfl) (by kernel_rfl) (by kernel_rfl))
    laidOut rfl (by kernel_rfl) u4 (by kernel_rfl) (by
      intro t ht
      simp only [List.mem_cons, List.not_mem_nil, or_false] at ht
      rcases ht with rfl <;> exact ⟨by kernel_rfl, of_decide_eq_true (by kernel_rfl), by kernel_rfl⟩)
    (by
      intro ds hl
      match ds, hl with
      | [_], _ => exact ⟨rfl, rfl, rfl⟩)
    stays_law
theorem stays_j1 : Try.prog.inPlace 8 = Rows.amendStaysRow.inPlace := by kernel_rfl
theorem stays_j2 : Try.prog.unfollowed 8 = Rows.amendStaysRow.unfollowed := by kernel_rfl
theorem stays_j3 : Try.prog.recurses 8 = Rows.amendStaysRow.recurses := by kernel_rfl
theorem stays_j4 : Try.prog.varsNamed 8 = Rows.amendStaysRow.named := by kernel_rfl
theorem stays_closed : joinedFacts Try.prog 8 Try.f8 Rows.amendStaysSpec Rows.amendStaysRow = true := by
  unfold joinedFacts
  rw [stays_j1, stays_j2, stays_j3, stays_j4]
  kernel_rfl
theorem stays_named : Try.prog.funcNamed Rows.amendStaysRow.func = some 8 := by kernel_rfl
theorem stays_holds : Rows.AmendStaysSaid :=
  OpenClaim.holds_of_wide 8 Try.f8 rfl rfl rfl rfl rfl rfl rfl ⟨rfl, rfl, rfl, rfl, rfl⟩ rfl rfl rfl rfl rfl stays_named Try.func8 stays_closed
    (of_decide_eq_true (by kernel_rfl)) (by unfold Func.isWrapper; first | (rw [if_pos (by decide +kernel)]; kernel_rfl) | (rw [if_neg (by decide +kernel)]; exact ⟨rfl, rfl⟩))
    (fun os started H enc _ => stays_lifted os started H enc)
#print axioms stays_holds
end Go.Proofs.Ytamljcdnphjgaaa
