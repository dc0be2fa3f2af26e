/-
  PostMerges returns true for every three lists of notes, and its arguments read as before; the package variables read as the card says. No condition.
-/
import Derived.Test.YtljbmlnddeacfaaGreatDoorPe
import Derived.Test.YtljbmlnddeacfaaGreatDoorPf
import Derived.Test.YtljbmlnddeacfaaGreatDoorCards
import Derived.Test.YtljbmlnddeacfaaGreatDoorTie
import Derived.SevenTiedAt

set_option linter.all false
set_option linter.deprecated false

/-
  PostMerges: the row and its card.
-/
namespace Go.Proofs.YtljbmlnddeacfaaGreatDoor
open Go Go.Gx Go.Gx.B Go.Proofs
open Go.ChangeShapes Go.WideShapes Go.ChangeAt Go.RowKit
set_option maxRecDepth 100000
set_option linter.all false

theorem merges_law (S : AS) (vs : List Value) (hS : S.Valid) (h : TyArgs Tryz.prog S 6 [23, 23, 23] vs) : Gx.Call B.G 7 vs S fun e _ => e = .ret (.bool true) := by
  obtain ⟨v0, _, rfl, h0, h⟩ := tyArgs_cons h
  obtain ⟨v1, _, rfl, h1, h⟩ := tyArgs_cons h
  obtain ⟨v2, _, rfl, h2, h⟩ := tyArgs_cons h
  obtain rfl := tyArgs_nil h
  obtain ⟨a, ha⟩ := notes_of hS h0
  obtain ⟨b, hb⟩ := notes_of hS h1
  obtain ⟨c, hc⟩ := notes_of hS h2
  exact postMerges_walk ha hb hc
theorem merges_door (os : Os) (args : Array Value) : laidMetH Tryz.prog laid5 ((World.doorLaid Tryz.prog 62 os).forCall (fun _ _ => 0) ⟨#[], args, []⟩).memory :=
  laidMetH_of_parts3 (fuel := 8) (laidMet_of_run' 8 (by kernel_rfl) (by kernel_rfl)) (by kernel_rfl) (by kernel_rfl)
theorem merges_lifted (os : Os) (started : os.Started) (H : Type) (enc : TypeId × Value → H) :
    ReturnsInHanded {} Tryz.checked os 7 .any (fun w args => (Rows.postMergesSpec.pre enc Tryz.prog Tryz.f7 [] false w args ∧ laidMetH Tryz.prog laid5 w) ∧ sizedMet enc Tryz.prog Tryz.f7 (OpenSpec.ofChange Rows.postMergesSpec) false w args) (Rows.postMergesSpec.post enc Tryz.prog Tryz.f7 false true false false) :=
  law_returns_laid (C := Tryz.checked) (G := B.G) (LW := LW) (laid := laid5) (d := 6) (ts := [23, 23, 23]) (tb := 4) laid_LW tabOK extG_ok mixed started own (by kernel_rfl) Tryz.func7
    (ChangeSpec.witness_shaped (enc := enc) (C := Tryz.checked) (os := os) (X := fun w _ => laidMetH Tryz.prog laid5 w) false (World.doorLaid Tryz.prog 62 os) #[.slice none 0 0, .slice none 0 0, .slice none 0 0] 8 rfl (World.shaped_of_RefB (by kernel_rfl) (by kernel_rfl)) (by kernel_rfl) (by kernel_rfl) (by kernel_rfl) (merges_door os _))
    laidOut rfl (by kernel_rfl) u4 (by kernel_rfl) (by
      intro t ht
      simp only [List.mem_cons, List.not_mem_nil, or_false] at ht
      rcases ht with rfl | rfl | rfl <;> exact ⟨by kernel_rfl, of_decide_eq_true (by kernel_rfl), by kernel_rfl⟩)
    (by
      intro ds hl
      match ds, hl with
      | [_, _, _], _ => exact ⟨rfl, rfl, rfl⟩)
    merges_law
theorem merges_j1 : Tryz.prog.inPlace 7 = Rows.postMergesRow.inPlace := by kernel_rfl
theorem merges_j2 : Tryz.prog.unfollowed 7 = Rows.postMergesRow.unfollowed := by kernel_rfl
theorem merges_j3 : Tryz.prog.recurses 7 = Rows.postMergesRow.recurses := by kernel_rfl
theorem merges_j4 : Tryz.prog.varsNamed 7 = Rows.postMergesRow.named := by kernel_rfl
theorem merges_k1 : (Tryz.prog.make == some Rows.postMergesRow.make) = true := by kernel_rfl
theorem merges_k2 : (Rows.postMergesRow.lifted == Tryz.prog.liftsFinal) = true := by kernel_rfl
theorem merges_k3 : Tryz.prog.stopsHeard = true := by kernel_rfl
theorem merges_k4 : Tryz.prog.mayEnter = true := by kernel_rfl
theorem merges_k5 : (Rows.postMergesRow.plainKeys == Tryz.prog.plainKeys) = true := by kernel_rfl
theorem merges_closed : joinedFacts Tryz.prog 7 Tryz.f7 Rows.postMergesSpec Rows.postMergesRow = true := by
  unfold joinedFacts
  rw [merges_j1, merges_j2, merges_j3, merges_j4, merges_k1, merges_k2, merges_k3, merges_k4, merges_k5]
  kernel_rfl
theorem merges_named : Tryz.prog.funcNamed Rows.postMergesRow.func = some 7 := by kernel_rfl
theorem merges_row : Rows.PostMergesSaid :=
  OpenClaim.holds_of_wide 7 Tryz.f7 rfl rfl rfl rfl rfl rfl rfl ⟨rfl, rfl, rfl, rfl, rfl⟩ rfl rfl rfl rfl rfl merges_named Tryz.func7 merges_closed
    (of_decide_eq_true (by kernel_rfl)) (by unfold Func.isWrapper; first | (rw [if_pos (by decide +kernel)]; kernel_rfl) | (rw [if_neg (by decide +kernel)]; exact ⟨rfl, rfl⟩))
    (fun os started H enc _ => merges_lifted os started H enc)
theorem merges_holds : Rows.PostMergesCardSaid :=
  Claim7.holds_tied_plain_at .later [] [.data, .data, .data, .sentinel, .sentinel] true (true, "ec8d7dd3db35b14fbec31a03c610631469a9451c5c6dfa63512caf2a32465f8a") true
    merges_row (fun _ h => by cases h) (by kernel_rfl) (fun _ h => by cases h) postMerges_row_tie rfl ⟨rfl, rfl⟩ (by kernel_rfl) rfl
    (fun f fn hf hfn => by
      obtain rfl : f = 7 := Option.some.inj (merges_named.symm.trans hf) |>.symm
      obtain rfl : fn = Tryz.f7 := (Option.some.inj (Tryz.func7.symm.trans hfn)).symm
      exact ⟨by kernel_rfl, fun j t ht => by
        rw [Tryz.params7] at ht
        have hm : t ∈ [23, 23, 23] := by simpa using Array.mem_of_getElem? ht
        have hall : ([23, 23, 23].all fun u => !Tryz.prog.wantsStandIn u) = true := by kernel_rfl
        exact (show Tryz.prog.wantsStandIn t = false by simpa using List.all_eq_true.1 hall t hm)⟩)
    (by kernel_rfl)
#print axioms merges_holds
end Go.Proofs.YtljbmlnddeacfaaGreatDoor
