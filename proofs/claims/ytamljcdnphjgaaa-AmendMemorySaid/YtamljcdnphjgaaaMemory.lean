/-
  AmendMemory returns true for every change and order, and its arguments read as before. No condition.
-/
import Derived.Test.YtamljcdnphjgaaaQa
import Derived.Test.YtamljcdnphjgaaaPb

set_option linter.all false
set_option linter.deprecated false
set_option linter.unusedSimpArgs false
set_option linter.unusedVariables false

/-
  AmendMemory: the row.
-/
namespace Go.Proofs.Ytamljcdnphjgaaa
open Go.Gx Go.Gx.A Go.Proofs
open Go.ChangeShapes Go.WideShapes Go.ChangeAt Go.RowKit
set_option maxRecDepth 100000
set_option linter.all false
theorem memory_law (S : AS) (vs : List Value) (hS : S.Valid) (h : TyArgs Try.prog S 6 [27, 25] vs) : Gx.Call A.G 18 vs S fun e _ => e = .ret (.bool true) := by
  obtain ⟨v0, _, rfl, h0, h⟩ := tyArgs_cons h
  obtain ⟨v1, _, rfl, h1, h⟩ := tyArgs_cons h
  obtain rfl := tyArgs_nil h
  obtain ⟨c, va, vo, rfl, hc⟩ := chg_of hS h0
  obtain ⟨m, hm, _⟩ := is_of u25 u3 n3 hS (tyV_slice u25 h1)
  exact memory_walk hc hm
theorem memory_lifted (os : Os) (started : os.Started) (H : Type) (enc : TypeId × Value → H) :
    ReturnsInHanded {} Try.checked os 18 .any (Rows.amendMemorySpec.pre6 enc Try.prog Try.f18 Rows.amendMemoryRow.domain false) (Rows.amendMemorySpec.post enc Try.prog Try.f18 false true false false) :=
  law_returns (C := Try.checked) (G := A.G) (d := 6) (ts := [27, 25]) (tb := 4) tabOK extOK mixed started own (by kernel_rfl) Try.func18
    (ChangeSpec.witness6 (enc := enc) (C := Try.checked) false ⟨#[], #[.agg #[.int .i64 0, .slice none 0 0, .slice none 0 0, .int .i64 0], .slice none 0 0], []⟩ 8 (by kernel_rfl) (by kernel_rfl) (by kernel_rfl) (by kernel_rfl))
    laidOut rfl (by kernel_rfl) u4 (by kernel_rfl) (by
      intro t ht
      simp only [List.mem_cons, List.not_mem_nil, or_false] at ht
      rcases ht with rfl | rfl <;> exact ⟨by kernel_rfl, of_decide_eq_true (by kernel_rfl), by kernel_rfl⟩)
    (by
      intro ds hl
      match ds, hl with
      | [_, _], _ => exact ⟨rfl, rfl, rfl⟩)
    memory_law
theorem memory_j1 : Try.prog.inPlace 18 = Rows.amendMemoryRow.inPlace := by kernel_rfl
theorem memory_j2 : Try.prog.unfollowed 18 = Rows.amendMemoryRow.unfollowed := by kernel_rfl
theorem memory_j3 : Try.prog.recurses 18 = Rows.amendMemoryRow.recurses := by kernel_rfl
theorem memory_j4 : Try.prog.varsNamed 18 = Rows.amendMemoryRow.named := by kernel_rfl
theorem memory_closed : joinedFacts Try.prog 18 Try.f18 Rows.amendMemorySpec Rows.amendMemoryRow = true := by
  unfold joinedFacts
  rw [memory_j1, memory_j2, memory_j3, memory_j4]
  kernel_rfl
theorem memory_named : Try.prog.funcNamed Rows.amendMemoryRow.func = some 18 := by kernel_rfl
theorem memory_holds : Rows.AmendMemorySaid :=
  OpenClaim.holds_of_wide 18 Try.f18 rfl rfl rfl rfl rfl rfl rfl ⟨rfl, rfl, rfl, rfl, rfl⟩ rfl rfl rfl rfl rfl memory_named Try.func18 memory_closed
    (of_decide_eq_true (by kernel_rfl)) (by unfold Func.isWrapper; first | (rw [if_pos (by decide +kernel)]; kernel_rfl) | (rw [if_neg (by decide +kernel)]; exact ⟨rfl, rfl⟩))
    (fun os started H enc _ => memory_lifted os started H enc)
#print axioms memory_holds
end Go.Proofs.Ytamljcdnphjgaaa
