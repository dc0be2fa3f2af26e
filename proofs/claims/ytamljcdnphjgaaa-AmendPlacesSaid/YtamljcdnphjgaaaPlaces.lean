/-
  AmendPlaces returns true for all its arguments, and they read as before. No condition.
-/
import Derived.Test.YtamljcdnphjgaaaPx
import Derived.Test.YtamljcdnphjgaaaPb
import Derived.Test.YtamljcdnphjgaaaQy

set_option linter.all false
set_option linter.deprecated false
set_option linter.unusedSimpArgs false
set_option linter.unusedVariables false

/-
  AmendPlaces: the row.
-/
namespace Go.Proofs.Ytamljcdnphjgaaa
open Go.Gx Go.Gx.A Go.Proofs
open Go.ChangeShapes Go.WideShapes Go.ChangeAt Go.RowKit
set_option maxRecDepth 100000
set_option linter.all false
theorem places_law (S : AS) (vs : List Value) (hS : S.Valid) (h : TyArgs Try.prog S 6 [24, 25, 3] vs) : Gx.Call A.G 12 vs S fun e _ => e = .ret (.bool true) := by
  obtain ⟨v0, _, rfl, h0, h⟩ := tyArgs_cons h
  obtain ⟨v1, _, rfl, h1, h⟩ := tyArgs_cons h
  obtain ⟨v2, _, rfl, h2, h⟩ := tyArgs_cons h
  obtain rfl := tyArgs_nil h
  obtain ⟨N, l, va, rfl, hv⟩ := rel_of hS h0
  obtain ⟨m, hm, _⟩ := is_of u25 u3 n3 hS (tyV_slice u25 h1)
  obtain ⟨c, rfl, _⟩ := ty_int u3 (tyV_int u3 h2)
  exact places_walk hv hm
theorem places_lifted (os : Os) (started : os.Started) (H : Type) (enc : TypeId × Value → H) :
    ReturnsInHanded {} Try.checked os 12 .any (Rows.amendPlacesSpec.pre6 enc Try.prog Try.f12 Rows.amendPlacesRow.domain false) (Rows.amendPlacesSpec.post enc Try.prog Try.f12 false true false false) :=
  law_returns (C := Try.checked) (G := A.G) (d := 6) (ts := [24, 25, 3]) (tb := 4) tabOK extOK mixed started own (by kernel_rfl) Try.func12
    (ChangeSpec.witness6 (enc := enc) (C := Try.checked) false ⟨#[], #[.agg #[.int .i64 0, .slice none 0 0], .slice none 0 0, .int .i64 0], []⟩ 8 (by kernel_rfl) (by kernel_rfl) (by kernel_rfl) (by kernel_rfl))
    laidOut rfl (by kernel_rfl) u4 (by kernel_rfl) (by
      intro t ht
      simp only [List.mem_cons, List.not_mem_nil, or_false] at ht
      rcases ht with rfl | rfl | rfl <;> exact ⟨by kernel_rfl, of_decide_eq_true (by kernel_rfl), by kernel_rfl⟩)
    (by
      intro ds hl
      match ds, hl with
      | [_, _, _], _ => exact ⟨rfl, rfl, rfl⟩)
    places_law
theorem places_j1 : Try.prog.inPlace 12 = Rows.amendPlacesRow.inPlace := by kernel_rfl
theorem places_j2 : Try.prog.unfollowed 12 = Rows.amendPlacesRow.unfollowed := by kernel_rfl
theorem places_j3 : Try.prog.recurses 12 = Rows.amendPlacesRow.recurses := by kernel_rfl
theorem places_j4 : Try.prog.varsNamed 12 = Rows.amendPlacesRow.named := by kernel_rfl
theorem places_closed : joinedFacts Try.prog 12 Try.f12 Rows.amendPlacesSpec Rows.amendPlacesRow = true := by
  unfold joinedFacts
  rw [places_j1, places_j2, places_j3, places_j4]
  kernel_rfl
theorem places_named : Try.prog.funcNamed Rows.amendPlacesRow.func = some 12 := by kernel_rfl
theorem places_holds : Rows.AmendPlacesSaid :=
  OpenClaim.holds_of_wide 12 Try.f12 rfl rfl rfl rfl rfl rfl rfl ⟨rfl, rfl, rfl, rfl, rfl⟩ rfl rfl rfl rfl rfl places_named Try.func12 places_closed
    (of_decide_eq_true (by kernel_rfl)) (by unfold Func.isWrapper; first | (rw [if_pos (by decide +kernel)]; kernel_rfl) | (rw [if_neg (by decide +kernel)]; exact ⟨rfl, rfl⟩))
    (fun os started H enc _ => places_lifted os started H enc)
#print axioms places_holds
end Go.Proofs.Ytamljcdnphjgaaa
