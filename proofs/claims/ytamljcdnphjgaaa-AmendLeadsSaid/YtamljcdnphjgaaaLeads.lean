/-
  AmendLeads returns true for all its arguments, and they read as before. No condition.
-/
import Derived.Test.YtamljcdnphjgaaaPy
import Derived.Test.YtamljcdnphjgaaaPb

set_option linter.all false
set_option linter.deprecated false
set_option linter.unusedSimpArgs false
set_option linter.unusedVariables false

/-
  AmendLeads: the row.
-/
namespace Go.Proofs.Ytamljcdnphjgaaa
open Go.Gx Go.Gx.A Go.Proofs
open Go.ChangeShapes Go.WideShapes Go.ChangeAt Go.RowKit
set_option maxRecDepth 100000
set_option linter.all false
theorem leads_law (S : AS) (vs : List Value) (hS : S.Valid) (h : TyArgs Try.prog S 4 [25, 25] vs) : Gx.Call A.G 17 vs S fun e _ => e = .ret (.bool true) := by
  obtain ⟨v0, _, rfl, h0, h⟩ := tyArgs_cons h
  obtain ⟨v1, _, rfl, h1, h⟩ := tyArgs_cons h
  obtain rfl := tyArgs_nil h
  obtain ⟨l, hl, _⟩ := is_of u25 u3 n3 hS (tyV_slice u25 h0)
  obtain ⟨m, hm, _⟩ := is_of u25 u3 n3 hS (tyV_slice u25 h1)
  exact leads_walk hl hm
theorem leads_lifted (os : Os) (started : os.Started) (H : Type) (enc : TypeId × Value → H) :
    ReturnsInHanded {} Try.checked os 17 .any (Rows.amendLeadsSpec.pre6 enc Try.prog Try.f17 Rows.amendLeadsRow.domain false) (Rows.amendLeadsSpec.post enc Try.prog Try.f17 false true false false) :=
  law_returns (C := Try.checked) (G := A.G) (d := 4) (ts := [25, 25]) (tb := 4) tabOK extOK mixed started own (by kernel_rfl) Try.func17
    (ChangeSpec.witness6 (enc := enc) (C := Try.checked) false ⟨#[], #[.slice none 0 0, .slice none 0 0], []⟩ 8 (by kernel_rfl) (by kernel_rfl) (by kernel_rfl) (by kernel_rfl))
    laidOut rfl (by kernel_rfl) u4 (by kernel_rfl) (by
      intro t ht
      simp only [List.mem_cons, List.not_mem_nil, or_false] at ht
      rcases ht with rfl | rfl <;> exact ⟨by kernel_rfl, of_decide_eq_true (by kernel_rfl), by kernel_rfl⟩)
    (by
      intro ds hl
      match ds, hl with
      | [_, _], _ => exact ⟨rfl, rfl, rfl⟩)
    leads_law
theorem leads_j1 : Try.prog.inPlace 17 = Rows.amendLeadsRow.inPlace := by kernel_rfl
theorem leads_j2 : Try.prog.unfollowed 17 = Rows.amendLeadsRow.unfollowed := by kernel_rfl
theorem leads_j3 : Try.prog.recurses 17 = Rows.amendLeadsRow.recurses := by kernel_rfl
theorem leads_j4 : Try.prog.varsNamed 17 = Rows.amendLeadsRow.named := by kernel_rfl
theorem leads_closed : joinedFacts Try.prog 17 Try.f17 Rows.amendLeadsSpec Rows.amendLeadsRow = true := by
  unfold joinedFacts
  rw [leads_j1, leads_j2, leads_j3, leads_j4]
  kernel_rfl
theorem leads_named : Try.prog.funcNamed Rows.amendLeadsRow.func = some 17 := by kernel_rfl
theorem leads_holds : Rows.AmendLeadsSaid :=
  OpenClaim.holds_of_wide 17 Try.f17 rfl rfl rfl rfl rfl rfl rfl ⟨rfl, rfl, rfl, rfl, rfl⟩ rfl rfl rfl rfl rfl leads_named Try.func17 leads_closed
    (of_decide_eq_true (by kernel_rfl)) (by unfold Func.isWrapper; first | (rw [if_pos (by decide +kernel)]; kernel_rfl) | (rw [if_neg (by decide +kernel)]; exact ⟨rfl, rfl⟩))
    (fun os started H enc _ => leads_lifted os started H enc)
#print axioms leads_holds
end Go.Proofs.Ytamljcdnphjgaaa
