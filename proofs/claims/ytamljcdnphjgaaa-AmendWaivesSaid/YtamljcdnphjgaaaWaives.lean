/-
  AmendWaives returns true for every change and all pairs, and its arguments read as before. No condition.
-/
import Derived.Test.YtamljcdnphjgaaaPv
import Derived.Test.YtamljcdnphjgaaaPb

set_option linter.all false
set_option linter.deprecated false
set_option linter.unusedSimpArgs false
set_option linter.unusedVariables false

/-
  AmendWaives: the row.
-/
namespace Go.Proofs.Ytamljcdnphjgaaa
open Go.Gx Go.Gx.A Go.Proofs
open Go.ChangeShapes Go.WideShapes Go.ChangeAt Go.RowKit
set_option maxRecDepth 100000
set_option linter.all false
theorem waives_law (S : AS) (vs : List Value) (hS : S.Valid) (h : TyArgs Try.prog S 6 [27, 62] vs) : Gx.Call A.G 11 vs S fun e _ => e = .ret (.bool true) := by
  obtain ⟨v0, _, rfl, h0, h⟩ := tyArgs_cons h
  obtain ⟨v1, _, rfl, h1, h⟩ := tyArgs_cons h
  obtain rfl := tyArgs_nil h
  obtain ⟨c, va, vo, rfl, hc⟩ := chg_of hS h0
  obtain ⟨P, hP, hl⟩ := prs_of hS (tyV_slice u62 h1)
  exact waives_walk hc hP hl
theorem waives_lifted (os : Os) (started : os.Started) (H : Type) (enc : TypeId × Value → H) :
    ReturnsInHanded {} Try.checked os 11 .any (Rows.amendWaivesSpec.pre6 enc Try.prog Try.f11 Rows.amendWaivesRow.domain false) (Rows.amendWaivesSpec.post enc Try.prog Try.f11 false true false false) :=
  law_returns (C := Try.checked) (G := A.G) (d := 6) (ts := [27, 62]) (tb := 4) tabOK extOK mixed started own (by kernel_rfl) Try.func11
    (ChangeSpec.witness6 (enc := enc) (C := Try.checked) false ⟨#[], #[.agg #[.int .i64 0, .slice none 0 0, .slice none 0 0, .int .i64 0], .slice none 0 0], []⟩ 8 (by kernel_rfl) (by kernel_rfl) (by kernel_rfl) (by kernel_rfl))
    laidOut rfl (by kernel_rfl) u4 (by kernel_rfl) (by
      intro t ht
      simp only [List.mem_cons, List.not_mem_nil, or_false] at ht
      rcases ht with rfl | rfl <;> exact ⟨by kernel_rfl, of_decide_eq_true (by kernel_rfl), by kernel_rfl⟩)
    (by
      intro ds hl
      match ds, hl with
      | [_, _], _ => exact ⟨rfl, rfl, rfl⟩)
    waives_law
theorem waives_j1 : Try.prog.inPlace 11 = Rows.amendWaivesRow.inPlace := by kernel_rfl
theorem waives_j2 : Try.prog.unfollowed 11 = Rows.amendWaivesRow.unfollowed := by kernel_rfl
theorem waives_j3 : Try.prog.recurses 11 = Rows.amendWaivesRow.recurses := by kernel_rfl
theorem waives_j4 : Try.prog.varsNamed 11 = Rows.amendWaivesRow.named := by kernel_rfl
theorem waives_closed : joinedFacts Try.prog 11 Try.f11 Rows.amendWaivesSpec Rows.amendWaivesRow = true := by
  unfold joinedFacts
  rw [waives_j1, waives_j2, waives_j3, waives_j4]
  kernel_rfl
theorem waives_named : Try.prog.funcNamed Rows.amendWaivesRow.func = some 11 := by kernel_rfl
theorem waives_holds : Rows.AmendWaivesSaid :=
  OpenClaim.holds_of_wide 11 Try.f11 rfl rfl rfl rfl rfl rfl rfl ⟨rfl, rfl, rfl, rfl, rfl⟩ rfl rfl rfl rfl rfl waives_named Try.func11 waives_closed
    (of_decide_eq_true (by kernel_rfl)) (by unfold Func.isWrapper; first | (rw [if_pos (by decide +kernel)]; kernel_rfl) | (rw [if_neg (by decide +kernel)]; exact ⟨rfl, rfl⟩))
    (fun os started H enc _ => waives_lifted os started H enc)
#print axioms waives_holds
end Go.Proofs.Ytamljcdnphjgaaa
