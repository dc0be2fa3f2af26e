/-
  AmendMoves returns true for every two lists, and its arguments read as before. No condition.
-/
import Derived.Test.YtamljcdnphjgaaaPn
import Derived.Test.YtamljcdnphjgaaaPb

set_option linter.all false
set_option linter.deprecated false
set_option linter.unusedSimpArgs false
set_option linter.unusedVariables false

/-
  AmendMoves: the row.
-/
namespace Go.Proofs.Ytamljcdnphjgaaa
open Go.Gx Go.Gx.A Go.Proofs
open Go.ChangeShapes Go.WideShapes Go.ChangeAt Go.RowKit
set_option maxRecDepth 100000
set_option linter.all false
theorem moves_law (S : AS) (vs : List Value) (hS : S.Valid) (h : TyArgs Try.prog S 4 [25, 25] vs) : Gx.Call A.G 4 vs S fun e _ => e = .ret (.bool true) := by
  obtain ⟨v0, _, rfl, h0, h⟩ := tyArgs_cons h
  obtain ⟨v1, _, rfl, h1, h⟩ := tyArgs_cons h
  obtain rfl := tyArgs_nil h
  obtain ⟨l, hl, _⟩ := is_of u25 u3 n3 hS (tyV_slice u25 h0)
  obtain ⟨m, hm, _⟩ := is_of u25 u3 n3 hS (tyV_slice u25 h1)
  exact moves_walk hl hm
theorem moves_lifted (os : Os) (started : os.Started) (H : Type) (enc : TypeId × Value → H) :
    ReturnsInHanded {} Try.checked os 4 .any (Rows.amendMovesSpec.pre6 enc Try.prog Try.f4 Rows.amendMovesRow.domain false) (Rows.amendMovesSpec.post enc Try.prog Try.f4 false true false false) :=
  law_returns (C := Try.checked) (G := A.G) (d := 4) (ts := [25, 25]) (tb := 4) tabOK extOK mixed started own (by kernel_rfl) Try.func4
    (ChangeSpec.witness6 (enc := enc) (C := Try.checked) false ⟨#[], #[.slice none 0 0, .slice none 0 0], []⟩ 8 (by kernel_rfl) (by kernel_rfl) (by kernel_rfl) (by kernel_rfl))
    laidOut rfl (by kernel_rfl) u4 (by kernel_rfl) (by
      intro t ht
      simp only [List.mem_cons, List.not_mem_nil, or_false] at ht
      rcases ht with rfl | rfl <;> exact ⟨by kernel_rfl, of_decide_eq_true (by kernel_rfl), by kernel_rfl⟩)
    (by
      intro ds hl
      match ds, hl with
      | [_, _], _ => exact ⟨rfl, rfl, rfl⟩)
    moves_law
theorem moves_j1 : Try.prog.inPlace 4 = Rows.amendMovesRow.inPlace := by kernel_rfl
theorem moves_j2 : Try.prog.unfollowed 4 = Rows.amendMovesRow.unfollowed := by kernel_rfl
theorem moves_j3 : Try.prog.recurses 4 = Rows.amendMovesRow.recurses := by kernel_rfl
theorem moves_j4 : Try.prog.varsNamed 4 = Rows.amendMovesRow.named := by kernel_rfl
theorem moves_closed : joinedFacts Try.prog 4 Try.f4 Rows.amendMovesSpec Rows.amendMovesRow = true := by
  unfold joinedFacts
  rw [moves_j1, moves_j2, moves_j3, moves_j4]
  kernel_rfl
theorem moves_named : Try.prog.funcNamed Rows.amendMovesRow.func = some 4 := by kernel_rfl
theorem moves_holds : Rows.AmendMovesSaid :=
  OpenClaim.holds_of_wide 4 Try.f4 rfl rfl rfl rfl rfl rfl rfl ⟨rfl, rfl, rfl, rfl, rfl⟩ rfl rfl rfl rfl rfl moves_named Try.func4 moves_closed
    (of_decide_eq_true (by kernel_rfl)) (by unfold Func.isWrapper; first | (rw [if_pos (by decide +kernel)]; kernel_rfl) | (rw [if_neg (by decide +kernel)]; exact ⟨rfl, rfl⟩))
    (fun os started H enc _ => moves_lifted os started H enc)
#print axioms moves_holds
end Go.Proofs.Ytamljcdnphjgaaa
