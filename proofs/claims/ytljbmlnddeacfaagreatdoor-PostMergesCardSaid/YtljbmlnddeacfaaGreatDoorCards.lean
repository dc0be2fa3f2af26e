/-
  DERIVED. GIVEN WITH THE SEED: THE CARDS: each row of YtljbmlnddeacfaaGreatDoorRows.lean that lists a variable, with what it lists TIED to the program's text (the seventh form; the later family's looks); each row that meets fmt, with fmt's text TOLD by the authors' own Lean function (tested against real Go, not proved from fmt's source: count such statements apart). THE CARD IS WHAT COUNTS. Prove the row's statement (the work); the ties are given (YtljbmlnddeacfaaGreatDoorTie.lean); close each card by the builder's one call (the guide's Derived/Test/ToyasCard.lean, 'card_holds'). Laid BY PROGRAM, IN A SANDBOX (cutbox-door.mjs). By AI agents, Wed Nov 11 2026. No macro, syntax, notation, axiom, sorry.
-/
import Derived.Test.YtljbmlnddeacfaaGreatDoorRows
import GoSem.ClaimSeven
namespace Go.Proofs.YtljbmlnddeacfaaGreatDoor
namespace Rows

/-- THE TIED CARD OF 'sennetlaw08.PostAgain'. -/
def postAgainCard : Claim7 := { stood := { row := postAgainRow, standIns := [], harness := (true, "ec8d7dd3db35b14fbec31a03c610631469a9451c5c6dfa63512caf2a32465f8a"), looks := true }, kinds := [], alts := [], laidByText := true, laidKinds := [.data, .data, .data, .sentinel, .sentinel], laidTests := true, laidLooks := .later }
def PostAgainCardSaid : Prop := Claim7.holds Tryz.pinned (.plain (OpenSpec.ofChange postAgainSpec)) postAgainCard

/-- THE TIED CARD OF 'sennetlaw08.PostTexts'. -/
def postTextsCard : Claim7 := { stood := { row := postTextsRow, standIns := [], harness := (true, "ec8d7dd3db35b14fbec31a03c610631469a9451c5c6dfa63512caf2a32465f8a"), looks := true }, kinds := [], alts := [], laidByText := true, laidKinds := [.data, .data, .data, .sentinel, .sentinel], laidTests := true, laidLooks := .later }
def PostTextsCardSaid : Prop := Claim7.holds Tryz.pinned (.plain (OpenSpec.ofChange postTextsSpec)) postTextsCard

/-- THE TIED CARD OF 'sennetlaw08.PostTextsBack'. -/
def postTextsBackCard : Claim7 := { stood := { row := postTextsBackRow, standIns := [], harness := (true, "ec8d7dd3db35b14fbec31a03c610631469a9451c5c6dfa63512caf2a32465f8a"), looks := true }, kinds := [], alts := [], laidByText := true, laidKinds := [.data, .data, .data, .sentinel, .sentinel], laidTests := true, laidLooks := .later }
def PostTextsBackCardSaid : Prop := Claim7.holds Tryz.pinned (.plain (OpenSpec.ofChange postTextsBackSpec)) postTextsBackCard

/-- THE TIED CARD OF 'sennetlaw08.PostNode'. -/
def postNodeCard : Claim7 := { stood := { row := postNodeRow, standIns := [], harness := (true, "ec8d7dd3db35b14fbec31a03c610631469a9451c5c6dfa63512caf2a32465f8a"), looks := true }, kinds := [], alts := [], laidByText := true, laidKinds := [.data, .data, .data, .sentinel, .sentinel], laidTests := true, laidLooks := .later }
def PostNodeCardSaid : Prop := Claim7.holds Tryz.pinned (.plain (OpenSpec.ofChange postNodeSpec)) postNodeCard

/-- THE TIED CARD OF 'sennetlaw08.PostMerges'. -/
def postMergesCard : Claim7 := { stood := { row := postMergesRow, standIns := [], harness := (true, "ec8d7dd3db35b14fbec31a03c610631469a9451c5c6dfa63512caf2a32465f8a"), looks := true }, kinds := [], alts := [], laidByText := true, laidKinds := [.data, .data, .data, .sentinel, .sentinel], laidTests := true, laidLooks := .later }
def PostMergesCardSaid : Prop := Claim7.holds Tryz.pinned (.plain (OpenSpec.ofChange postMergesSpec)) postMergesCard

/-- THE TIED CARD OF 'sennetlaw08.PostDurable'. -/
def postDurableCard : Claim7 := { stood := { row := postDurableRow, standIns := [], harness := (true, "ec8d7dd3db35b14fbec31a03c610631469a9451c5c6dfa63512caf2a32465f8a"), looks := true }, kinds := [], alts := [], laidByText := true, laidKinds := [.data, .data, .data, .sentinel, .sentinel], laidTests := true, laidLooks := .later }
def PostDurableCardSaid : Prop := Claim7.holds Tryz.pinned (.plain (OpenSpec.ofChange postDurableSpec)) postDurableCard

/-- THE TIED CARD OF 'sennetlaw08.PostNet'. -/
def postNetCard : Claim7 := { stood := { row := postNetRow, standIns := [], harness := (true, "ec8d7dd3db35b14fbec31a03c610631469a9451c5c6dfa63512caf2a32465f8a"), looks := true }, kinds := [], alts := [], laidByText := true, laidKinds := [.data, .data, .data, .sentinel, .sentinel], laidTests := true, laidLooks := .later }
def PostNetCardSaid : Prop := Claim7.holds Tryz.pinned (.plain (OpenSpec.ofChange postNetSpec)) postNetCard

/-- THE TIED CARD OF 'sennetlaw08.PostSettles'. -/
def postSettlesCard : Claim7 := { stood := { row := postSettlesRow, standIns := [], harness := (true, "ec8d7dd3db35b14fbec31a03c610631469a9451c5c6dfa63512caf2a32465f8a"), looks := true }, kinds := [], alts := [], laidByText := true, laidKinds := [.data, .data, .data, .sentinel, .sentinel], laidTests := true, laidLooks := .later }
def PostSettlesCardSaid : Prop := Claim7.holds Tryz.pinned (.plain (OpenSpec.ofChange postSettlesSpec)) postSettlesCard

/-- THE TIED CARD OF 'sennetlaw08.PostSpread'. -/
def postSpreadCard : Claim7 := { stood := { row := postSpreadRow, standIns := [], harness := (true, "ec8d7dd3db35b14fbec31a03c610631469a9451c5c6dfa63512caf2a32465f8a"), looks := true }, kinds := [], alts := [], laidByText := true, laidKinds := [.data, .data, .data, .sentinel, .sentinel], laidTests := true, laidLooks := .later }
def PostSpreadCardSaid : Prop := Claim7.holds Tryz.pinned (.plain (OpenSpec.ofChange postSpreadSpec)) postSpreadCard

/-- THE TIED CARD OF 'sennetlaw08.PostNil'. -/
def postNilCard : Claim7 := { stood := { row := postNilRow, standIns := [], harness := (true, "ec8d7dd3db35b14fbec31a03c610631469a9451c5c6dfa63512caf2a32465f8a"), looks := true }, kinds := [], alts := [], laidByText := true, laidKinds := [.data, .data, .data, .sentinel, .sentinel], laidTests := true, laidLooks := .later }
def PostNilCardSaid : Prop := Claim7.holds Tryz.pinned (.plain (OpenSpec.ofChange postNilSpec)) postNilCard

/-- THE TIED CARD OF 'sennetlaw08.PostRegisters'. -/
def postRegistersCard : Claim7 := { stood := { row := postRegistersRow, standIns := [], harness := (true, "ec8d7dd3db35b14fbec31a03c610631469a9451c5c6dfa63512caf2a32465f8a"), looks := true }, kinds := [], alts := [], laidByText := true, laidKinds := [.data, .data, .data, .sentinel, .sentinel], laidTests := true, laidLooks := .later }
def PostRegistersCardSaid : Prop := Claim7.holds Tryz.pinned (.plain (OpenSpec.ofChange postRegistersSpec)) postRegistersCard

/-- THE TIED CARD OF 'sennetlaw08.PostMissing'. -/
def postMissingCard : Claim7 := { stood := { row := postMissingRow, standIns := [], harness := (true, "ec8d7dd3db35b14fbec31a03c610631469a9451c5c6dfa63512caf2a32465f8a"), looks := true }, kinds := [], alts := [], laidByText := true, laidKinds := [.data, .data, .data, .sentinel, .sentinel], laidTests := true, laidLooks := .later }
def PostMissingCardSaid : Prop := Claim7.holds Tryz.pinned (.plain (OpenSpec.ofChange postMissingSpec)) postMissingCard

/-- THE SECOND FORM's CARD OF 'sennetlaw08.PostAgain'. -/
def postAgainUptoCard : Claim7 := { stood := { row := postAgainUptoRow, standIns := [], harness := (true, "ec8d7dd3db35b14fbec31a03c610631469a9451c5c6dfa63512caf2a32465f8a"), looks := true }, kinds := [], alts := [], laidByText := true, laidKinds := [.data, .data, .data, .sentinel, .sentinel], laidTests := true, laidLooks := .later }
def PostAgainUptoCardSaid : Prop := Claim7.holds Tryz.pinned (.plain (OpenSpec.upto postAgainSpec)) postAgainUptoCard

/-- THE SECOND FORM's CARD OF 'sennetlaw08.PostTexts'. -/
def postTextsUptoCard : Claim7 := { stood := { row := postTextsUptoRow, standIns := [], harness := (true, "ec8d7dd3db35b14fbec31a03c610631469a9451c5c6dfa63512caf2a32465f8a"), looks := true }, kinds := [], alts := [], laidByText := true, laidKinds := [.data, .data, .data, .sentinel, .sentinel], laidTests := true, laidLooks := .later }
def PostTextsUptoCardSaid : Prop := Claim7.holds Tryz.pinned (.plain (OpenSpec.upto postTextsSpec)) postTextsUptoCard

/-- THE SECOND FORM's CARD OF 'sennetlaw08.PostTextsBack'. -/
def postTextsBackUptoCard : Claim7 := { stood := { row := postTextsBackUptoRow, standIns := [], harness := (true, "ec8d7dd3db35b14fbec31a03c610631469a9451c5c6dfa63512caf2a32465f8a"), looks := true }, kinds := [], alts := [], laidByText := true, laidKinds := [.data, .data, .data, .sentinel, .sentinel], laidTests := true, laidLooks := .later }
def PostTextsBackUptoCardSaid : Prop := Claim7.holds Tryz.pinned (.plain (OpenSpec.upto postTextsBackSpec)) postTextsBackUptoCard

/-- THE SECOND FORM's CARD OF 'sennetlaw08.PostNode'. -/
def postNodeUptoCard : Claim7 := { stood := { row := postNodeUptoRow, standIns := [], harness := (true, "ec8d7dd3db35b14fbec31a03c610631469a9451c5c6dfa63512caf2a32465f8a"), looks := true }, kinds := [], alts := [], laidByText := true, laidKinds := [.data, .data, .data, .sentinel, .sentinel], laidTests := true, laidLooks := .later }
def PostNodeUptoCardSaid : Prop := Claim7.holds Tryz.pinned (.plain (OpenSpec.upto postNodeSpec)) postNodeUptoCard

/-- THE SECOND FORM's CARD OF 'sennetlaw08.PostMerges'. -/
def postMergesUptoCard : Claim7 := { stood := { row := postMergesUptoRow, standIns := [], harness := (true, "ec8d7dd3db35b14fbec31a03c610631469a9451c5c6dfa63512caf2a32465f8a"), looks := true }, kinds := [], alts := [], laidByText := true, laidKinds := [.data, .data, .data, .sentinel, .sentinel], laidTests := true, laidLooks := .later }
def PostMergesUptoCardSaid : Prop := Claim7.holds Tryz.pinned (.plain (OpenSpec.upto postMergesSpec)) postMergesUptoCard

/-- THE SECOND FORM's CARD OF 'sennetlaw08.PostDurable'. -/
def postDurableUptoCard : Claim7 := { stood := { row := postDurableUptoRow, standIns := [], harness := (true, "ec8d7dd3db35b14fbec31a03c610631469a9451c5c6dfa63512caf2a32465f8a"), looks := true }, kinds := [], alts := [], laidByText := true, laidKinds := [.data, .data, .data, .sentinel, .sentinel], laidTests := true, laidLooks := .later }
def PostDurableUptoCardSaid : Prop := Claim7.holds Tryz.pinned (.plain (OpenSpec.upto postDurableSpec)) postDurableUptoCard

/-- THE SECOND FORM's CARD OF 'sennetlaw08.PostNet'. -/
def postNetUptoCard : Claim7 := { stood := { row := postNetUptoRow, standIns := [], harness := (true, "ec8d7dd3db35b14fbec31a03c610631469a9451c5c6dfa63512caf2a32465f8a"), looks := true }, kinds := [], alts := [], laidByText := true, laidKinds := [.data, .data, .data, .sentinel, .sentinel], laidTests := true, laidLooks := .later }
def PostNetUptoCardSaid : Prop := Claim7.holds Tryz.pinned (.plain (OpenSpec.upto postNetSpec)) postNetUptoCard

/-- THE SECOND FORM's CARD OF 'sennetlaw08.PostSettles'. -/
def postSettlesUptoCard : Claim7 := { stood := { row := postSettlesUptoRow, standIns := [], harness := (true, "ec8d7dd3db35b14fbec31a03c610631469a9451c5c6dfa63512caf2a32465f8a"), looks := true }, kinds := [], alts := [], laidByText := true, laidKinds := [.data, .data, .data, .sentinel, .sentinel], laidTests := true, laidLooks := .later }
def PostSettlesUptoCardSaid : Prop := Claim7.holds Tryz.pinned (.plain (OpenSpec.upto postSettlesSpec)) postSettlesUptoCard

/-- THE SECOND FORM's CARD OF 'sennetlaw08.PostSpread'. -/
def postSpreadUptoCard : Claim7 := { stood := { row := postSpreadUptoRow, standIns := [], harness := (true, "ec8d7dd3db35b14fbec31a03c610631469a9451c5c6dfa63512caf2a32465f8a"), looks := true }, kinds := [], alts := [], laidByText := true, laidKinds := [.data, .data, .data, .sentinel, .sentinel], laidTests := true, laidLooks := .later }
def PostSpreadUptoCardSaid : Prop := Claim7.holds Tryz.pinned (.plain (OpenSpec.upto postSpreadSpec)) postSpreadUptoCard

/-- THE SECOND FORM's CARD OF 'sennetlaw08.PostNil'. -/
def postNilUptoCard : Claim7 := { stood := { row := postNilUptoRow, standIns := [], harness := (true, "ec8d7dd3db35b14fbec31a03c610631469a9451c5c6dfa63512caf2a32465f8a"), looks := true }, kinds := [], alts := [], laidByText := true, laidKinds := [.data, .data, .data, .sentinel, .sentinel], laidTests := true, laidLooks := .later }
def PostNilUptoCardSaid : Prop := Claim7.holds Tryz.pinned (.plain (OpenSpec.upto postNilSpec)) postNilUptoCard

/-- THE SECOND FORM's CARD OF 'sennetlaw08.PostRegisters'. -/
def postRegistersUptoCard : Claim7 := { stood := { row := postRegistersUptoRow, standIns := [], harness := (true, "ec8d7dd3db35b14fbec31a03c610631469a9451c5c6dfa63512caf2a32465f8a"), looks := true }, kinds := [], alts := [], laidByText := true, laidKinds := [.data, .data, .data, .sentinel, .sentinel], laidTests := true, laidLooks := .later }
def PostRegistersUptoCardSaid : Prop := Claim7.holds Tryz.pinned (.plain (OpenSpec.upto postRegistersSpec)) postRegistersUptoCard

/-- THE SECOND FORM's CARD OF 'sennetlaw08.PostMissing'. -/
def postMissingUptoCard : Claim7 := { stood := { row := postMissingUptoRow, standIns := [], harness := (true, "ec8d7dd3db35b14fbec31a03c610631469a9451c5c6dfa63512caf2a32465f8a"), looks := true }, kinds := [], alts := [], laidByText := true, laidKinds := [.data, .data, .data, .sentinel, .sentinel], laidTests := true, laidLooks := .later }
def PostMissingUptoCardSaid : Prop := Claim7.holds Tryz.pinned (.plain (OpenSpec.upto postMissingSpec)) postMissingUptoCard
end Rows
end Go.Proofs.YtljbmlnddeacfaaGreatDoor
