/-
  AmendCosts returns true for every change and order, and its arguments read as before. No condition.
-/
import Derived.Test.YtamljcdnphjgaaaPq
import Derived.Test.YtamljcdnphjgaaaPb

set_option linter.all false
set_option linter.deprecated false
set_option linter.unusedSimpArgs false
set_option linter.unusedVariables false

/-
  AmendCosts: the row.
-/
namespace Go.Proofs.Ytamljcdnphjgaaa
open Go.Gx Go.Gx.A Go.Proofs
open Go.ChangeShapes Go.WideShapes Go.ChangeAt Go.RowKit
set_option maxRecDepth 100000
set_option linter.all false
theorem costs_law (S : AS) (vs : List Value) (hS : S.Valid) (h : TyArgs Try.prog S 6 [27, 25] vs) : Gx.Call A.G 5 vs S fun e _ => e = .ret (.bool true) := by
  obtain ⟨v0, _, rfl, h0, h⟩ := tyArgs_cons h
  obtain ⟨v1, _, rfl, h1, h⟩ := tyArgs_cons h
  obtain rfl := tyArgs_nil h
  obtain ⟨c, va, vo, rfl, hc⟩ := chg_of hS h0
  obtain ⟨m, hm, _⟩ := is_of u25 u3 n3 hS (tyV_slice u25 h1)
  exact costs_walk hc hm
theorem costs_lifted (os : Os) (started : os.Started) (H : Type) (enc : TypeId × Value → H) :
    ReturnsInHanded {} Try.checked os 5 .any (Rows.amendCostsSpec.pre6 enc Try.prog Try.f5 Rows.amendCostsRow.domain false) (Rows.amendCostsSpec.post enc Try.prog Try.f5 false true false false) :=
  law_returns (C := Try.checked) (G := A.G) (d := 6) (ts := [27, 25]) (tb := 4) tabOK extOK mixed started own (by kernel_rfl) Try.func5
    (ChangeSpec.witness6 (enc := enc) (C := Try.checked) false ⟨#[], #[.agg #[.int .i64 0, .slice none 0 0, .slice none 0 0, .int .i64 0], .slice none 0 0], []⟩ 8 (by kernel_rfl) (by kernel_rfl) (by kernel_rfl) (by kernel_rfl))
    laidOut rfl (by kernel_rfl) u4 (by kernel_rfl) (by
      intro t ht
      simp only [List.mem_cons, List.not_mem_nil, or_false] at ht
      rcases ht with rfl | rfl <;> exact ⟨by kernel_rfl, of_decide_eq_true (by kernel_rfl), by kernel_rfl⟩)
    (by
      intro ds hl
      match ds, hl with
      | [_, _], _ => exact ⟨rfl, rfl, rfl⟩)
    costs_law
theorem costs_j1 : Try.prog.inPlace 5 = Rows.amendCostsRow.inPlace := by kernel_rfl
theorem costs_j2 : Try.prog.unfollowed 5 = Rows.amendCostsRow.unfollowed := by kernel_rfl
theorem costs_j3 : Try.prog.recurses 5 = Rows.amendCostsRow.recurses := by kernel_rfl
theorem costs_j4 : Try.prog.varsNamed 5 = Rows.amendCostsRow.named := by kernel_rfl
theorem costs_closed : joinedFacts Try.prog 5 Try.f5 Rows.amendCostsSpec Rows.amendCostsRow = true := by
  unfold joinedFacts
  rw [costs_j1, costs_j2, costs_j3, costs_j4]
  kernel_rfl
theorem costs_named : Try.prog.funcNamed Rows.amendCostsRow.func = some 5 := by kernel_rfl
theorem costs_holds : Rows.AmendCostsSaid :=
  OpenClaim.holds_of_wide 5 Try.f5 rfl rfl rfl rfl rfl rfl rfl ⟨rfl, rfl, rfl, rfl, rfl⟩ rfl rfl rfl rfl rfl costs_named Try.func5 costs_closed
    (of_decide_eq_true (by kernel_rfl)) (by unfold Func.isWrapper; first | (rw [if_pos (by decide +kernel)]; kernel_rfl) | (rw [if_neg (by decide +kernel)]; exact ⟨rfl, rfl⟩))
    (fun os started H enc _ => costs_lifted os started H enc)
#print axioms costs_holds
end Go.Proofs.Ytamljcdnphjgaaa
