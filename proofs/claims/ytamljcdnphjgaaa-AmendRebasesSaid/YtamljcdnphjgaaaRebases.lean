/-
  AmendRebases returns true for all its arguments, and they read as before. No condition.
-/
import Derived.Test.YtamljcdnphjgaaaPx
import Derived.Test.YtamljcdnphjgaaaPb
import Derived.Test.YtamljcdnphjgaaaQy

set_option linter.all false
set_option linter.deprecated false
set_option linter.unusedSimpArgs false
set_option linter.unusedVariables false

/-
  AmendRebases: the row.
-/
namespace Go.Proofs.Ytamljcdnphjgaaa
open Go.Gx Go.Gx.A Go.Proofs
open Go.ChangeShapes Go.WideShapes Go.ChangeAt Go.RowKit
set_option maxRecDepth 100000
set_option linter.all false
theorem rebases_law (S : AS) (vs : List Value) (hS : S.Valid) (h : TyArgs Try.prog S 5 [58, 3, 58] vs) : Gx.Call A.G 10 vs S fun e _ => e = .ret (.bool true) := by
  obtain ⟨v0, _, rfl, h0, h⟩ := tyArgs_cons h
  obtain ⟨v1, _, rfl, h1, h⟩ := tyArgs_cons h
  obtain ⟨v2, _, rfl, h2, h⟩ := tyArgs_cons h
  obtain rfl := tyArgs_nil h
  obtain ⟨P, hP, lP⟩ := guests_of hS (tyV_slice u58 h0)
  obtain ⟨c, rfl, _⟩ := ty_int u3 (tyV_int u3 h1)
  obtain ⟨N, hN, lN⟩ := guests_of hS (tyV_slice u58 h2)
  exact rebases_walk hP hN lN
theorem rebases_lifted (os : Os) (started : os.Started) (H : Type) (enc : TypeId × Value → H) :
    ReturnsInHanded {} Try.checked os 10 .any (Rows.amendRebasesSpec.pre6 enc Try.prog Try.f10 Rows.amendRebasesRow.domain false) (Rows.amendRebasesSpec.post enc Try.prog Try.f10 false true false false) :=
  law_returns (C := Try.checked) (G := A.G) (d := 5) (ts := [58, 3, 58]) (tb := 4) tabOK extOK mixed started own (by kernel_rfl) Try.func10
    (ChangeSpec.witness6 (enc := enc) (C := Try.checked) false ⟨#[], #[.slice none 0 0, .int .i64 0, .slice none 0 0], []⟩ 8 (by kernel_rfl) (by kernel_rfl) (by kernel_rfl) (by kernel_rfl))
    laidOut rfl (by kernel_rfl) u4 (by kernel_rfl) (by
      intro t ht
      simp only [List.mem_cons, List.not_mem_nil, or_false] at ht
      rcases ht with rfl | rfl | rfl <;> exact ⟨by kernel_rfl, of_decide_eq_true (by kernel_rfl), by kernel_rfl⟩)
    (by
      intro ds hl
      match ds, hl with
      | [_, _, _], _ => exact ⟨rfl, rfl, rfl⟩)
    rebases_law
theorem rebases_j1 : Try.prog.inPlace 10 = Rows.amendRebasesRow.inPlace := by kernel_rfl
theorem rebases_j2 : Try.prog.unfollowed 10 = Rows.amendRebasesRow.unfollowed := by kernel_rfl
theorem rebases_j3 : Try.prog.recurses 10 = Rows.amendRebasesRow.recurses := by kernel_rfl
theorem rebases_j4 : Try.prog.varsNamed 10 = Rows.amendRebasesRow.named := by kernel_rfl
theorem rebases_closed : joinedFacts Try.prog 10 Try.f10 Rows.amendRebasesSpec Rows.amendRebasesRow = true := by
  unfold joinedFacts
  rw [rebases_j1, rebases_j2, rebases_j3, rebases_j4]
  kernel_rfl
theorem rebases_named : Try.prog.funcNamed Rows.amendRebasesRow.func = some 10 := by kernel_rfl
theorem rebases_holds : Rows.AmendRebasesSaid :=
  OpenClaim.holds_of_wide 10 Try.f10 rfl rfl rfl rfl rfl rfl rfl ⟨rfl, rfl, rfl, rfl, rfl⟩ rfl rfl rfl rfl rfl rebases_named Try.func10 rebases_closed
    (of_decide_eq_true (by kernel_rfl)) (by unfold Func.isWrapper; first | (rw [if_pos (by decide +kernel)]; kernel_rfl) | (rw [if_neg (by decide +kernel)]; exact ⟨rfl, rfl⟩))
    (fun os started H enc _ => rebases_lifted os started H enc)
#print axioms rebases_holds
end Go.Proofs.Ytamljcdnphjgaaa
