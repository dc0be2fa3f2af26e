/-
  AmendApplies returns true for all its arguments, and they read as before. No condition.
-/
import Derived.Test.YtamljcdnphjgaaaPx
import Derived.Test.YtamljcdnphjgaaaPb
import Derived.Test.YtamljcdnphjgaaaQy

set_option linter.all false
set_option linter.deprecated false
set_option linter.unusedSimpArgs false
set_option linter.unusedVariables false

/-
  AmendApplies: the row.
-/
namespace Go.Proofs.Ytamljcdnphjgaaa
open Go.Gx Go.Gx.A Go.Proofs
open Go.ChangeShapes Go.WideShapes Go.ChangeAt Go.RowKit
set_option maxRecDepth 100000
set_option linter.all false
theorem applies_law (S : AS) (vs : List Value) (hS : S.Valid) (h : TyArgs Try.prog S 5 [25, 32, 3] vs) : Gx.Call A.G 16 vs S fun e _ => e = .ret (.bool true) := by
  obtain ⟨v0, _, rfl, h0, h⟩ := tyArgs_cons h
  obtain ⟨v1, _, rfl, h1, h⟩ := tyArgs_cons h
  obtain ⟨v2, _, rfl, h2, h⟩ := tyArgs_cons h
  obtain rfl := tyArgs_nil h
  obtain ⟨l, hl, _⟩ := is_of u25 u3 n3 hS (tyV_slice u25 h0)
  obtain ⟨m, hm⟩ := moves_of hS (tyV_slice u32 h1)
  obtain ⟨c, rfl, _⟩ := ty_int u3 (tyV_int u3 h2)
  exact applies_walk hl hm
theorem applies_lifted (os : Os) (started : os.Started) (H : Type) (enc : TypeId × Value → H) :
    ReturnsInHanded {} Try.checked os 16 .any (Rows.amendAppliesSpec.pre6 enc Try.prog Try.f16 Rows.amendAppliesRow.domain false) (Rows.amendAppliesSpec.post enc Try.prog Try.f16 false true false false) :=
  law_returns (C := Try.checked) (G := A.G) (d := 5) (ts := [25, 32, 3]) (tb := 4) tabOK extOK mixed started own (by kernel_rfl) Try.func16
    (ChangeSpec.witness6 (enc := enc) (C := Try.checked) false ⟨#[], #[.slice none 0 0, .slice none 0 0, .int .i64 0], []⟩ 8 (by kernel_rfl) (by kernel_rfl) (by kernel_rfl) (by kernel_rfl))
    laidOut rfl (by kernel_rfl) u4 (by kernel_rfl) (by
      intro t ht
      simp only [List.mem_cons, List.not_mem_nil, or_false] at ht
      rcases ht with rfl | rfl | rfl <;> exact ⟨by kernel_rfl, of_decide_eq_true (by kernel_rfl), by kernel_rfl⟩)
    (by
      intro ds hl
      match ds, hl with
      | [_, _, _], _ => exact ⟨rfl, rfl, rfl⟩)
    applies_law
theorem applies_j1 : Try.prog.inPlace 16 = Rows.amendAppliesRow.inPlace := by kernel_rfl
theorem applies_j2 : Try.prog.unfollowed 16 = Rows.amendAppliesRow.unfollowed := by kernel_rfl
theorem applies_j3 : Try.prog.recurses 16 = Rows.amendAppliesRow.recurses := by kernel_rfl
theorem applies_j4 : Try.prog.varsNamed 16 = Rows.amendAppliesRow.named := by kernel_rfl
theorem applies_closed : joinedFacts Try.prog 16 Try.f16 Rows.amendAppliesSpec Rows.amendAppliesRow = true := by
  unfold joinedFacts
  rw [applies_j1, applies_j2, applies_j3, applies_j4]
  kernel_rfl
theorem applies_named : Try.prog.funcNamed Rows.amendAppliesRow.func = some 16 := by kernel_rfl
theorem applies_holds : Rows.AmendAppliesSaid :=
  OpenClaim.holds_of_wide 16 Try.f16 rfl rfl rfl rfl rfl rfl rfl ⟨rfl, rfl, rfl, rfl, rfl⟩ rfl rfl rfl rfl rfl applies_named Try.func16 applies_closed
    (of_decide_eq_true (by kernel_rfl)) (by unfold Func.isWrapper; first | (rw [if_pos (by decide +kernel)]; kernel_rfl) | (rw [if_neg (by decide +kernel)]; exact ⟨rfl, rfl⟩))
    (fun os started H enc _ => applies_lifted os started H enc)
#print axioms applies_holds
end Go.Proofs.Ytamljcdnphjgaaa
