/-
  No cell of these rows narrows 'for every input' (looked for: loops, veiled, ifaces, maps, wideKeys, modest, calm, conditions, laid).
  DERIVED. THE GIVEN ROWS OF THIS SEAT. 20 by the template 'for every input the law returns true; each argument reads behind the call as it read before'; 0 by the template 'total and deterministic' (their statements: YtamljcdnphjgaaaTotals.lean).
  GIVEN WITH THE SEED: the statements are not yours to turn. If you find one false, say at which input.
  Laid BY PROGRAM, IN A SANDBOX (cutbox-rows.mjs): the forced cells as the released guide's own fill.sh prints them over the translation 77f052b6c168da56… (all of the seat's roots in one cut). By AI agents, Wed Nov 11 2026. No macro, syntax, notation, axiom, sorry.
-/
import Derived.Test.YtamljcdnphjgaaaChecked
import GoSem.Claim
import GoSem.ClaimJoined
import GoSem.ClaimMapViews
import Derived.JoinedTies
import Derived.KernelRfl
namespace Go.Proofs.Ytamljcdnphjgaaa
/- THE CELL 'sum', in the pinned program and in every row, IS THE sha256 OF THE DUMP (.gsa) THAT YtamljcdnphjgaaaProg.lean LOADS. Nothing in Lean hashes anything: it is a label: what it is worth is what the hold of that sum in a sandbox is worth. -/
noncomputable def Try.pinned : Pinned := { name := "ytamljcdnphjgaaa", sum := "77f052b6c168da562046e863b4fd2e3a2a7109dd0e6811b68089b74b3692e5d7", checked := Try.checked }
namespace Rows
def none {H : Type} : Left H := { results := [], args := [] }

/-- 'sennetlaw07.AmendChecks': WHATEVER THE INPUT: true; the input reads as it did. -/
def amendChecksSpec : ChangeSpec := { name := "amendChecks", fn := fun _ => fun
  | [d] => { results := [.lit (.bool true)], args := [d] }
  | _ => none }
def amendChecksRow : OpenClaim := { program := "ytamljcdnphjgaaa", sum := "77f052b6c168da562046e863b4fd2e3a2a7109dd0e6811b68089b74b3692e5d7", func := "sennet/sennetlaw07.AmendChecks", spec := "amendChecks", inPlace := ["slices.overlaps[int]"], unfollowed := true, recurses := true, plainKeys := false, apart := false }
def AmendChecksSaid : Prop := amendChecksRow.holds Try.pinned (OpenSpec.ofChange amendChecksSpec)

/-- ITS FALSE NEIGHBOUR: 'it returns false'. Refute it at one input. -/
def amendChecksWrong : ChangeSpec := { name := "amendChecks", fn := fun _ => fun
  | [d] => { results := [.lit (.bool false)], args := [d] }
  | _ => none }
def AmendChecksWrongFalsely : Prop := amendChecksRow.holds Try.pinned (OpenSpec.ofChange amendChecksWrong)

/-- 'sennetlaw07.AmendMoves': WHATEVER THE INPUT: true; the input reads as it did. -/
def amendMovesSpec : ChangeSpec := { name := "amendMoves", fn := fun _ => fun
  | [d1, d2] => { results := [.lit (.bool true)], args := [d1, d2] }
  | _ => none }
def amendMovesRow : OpenClaim := { program := "ytamljcdnphjgaaa", sum := "77f052b6c168da562046e863b4fd2e3a2a7109dd0e6811b68089b74b3692e5d7", func := "sennet/sennetlaw07.AmendMoves", spec := "amendMoves", inPlace := ["slices.overlaps[int]"], unfollowed := true, recurses := true, plainKeys := false, apart := false }
def AmendMovesSaid : Prop := amendMovesRow.holds Try.pinned (OpenSpec.ofChange amendMovesSpec)

/-- ITS FALSE NEIGHBOUR: 'it returns false'. Refute it at one input. -/
def amendMovesWrong : ChangeSpec := { name := "amendMoves", fn := fun _ => fun
  | [d1, d2] => { results := [.lit (.bool false)], args := [d1, d2] }
  | _ => none }
def AmendMovesWrongFalsely : Prop := amendMovesRow.holds Try.pinned (OpenSpec.ofChange amendMovesWrong)

/-- 'sennetlaw07.AmendCosts': WHATEVER THE INPUT: true; the input reads as it did. -/
def amendCostsSpec : ChangeSpec := { name := "amendCosts", fn := fun _ => fun
  | [d1, d2] => { results := [.lit (.bool true)], args := [d1, d2] }
  | _ => none }
def amendCostsRow : OpenClaim := { program := "ytamljcdnphjgaaa", sum := "77f052b6c168da562046e863b4fd2e3a2a7109dd0e6811b68089b74b3692e5d7", func := "sennet/sennetlaw07.AmendCosts", spec := "amendCosts", inPlace := ["slices.overlaps[int]"], unfollowed := true, recurses := true, plainKeys := false, apart := false }
def AmendCostsSaid : Prop := amendCostsRow.holds Try.pinned (OpenSpec.ofChange amendCostsSpec)

/-- ITS FALSE NEIGHBOUR: 'it returns false'. Refute it at one input. -/
def amendCostsWrong : ChangeSpec := { name := "amendCosts", fn := fun _ => fun
  | [d1, d2] => { results := [.lit (.bool false)], args := [d1, d2] }
  | _ => none }
def AmendCostsWrongFalsely : Prop := amendCostsRow.holds Try.pinned (OpenSpec.ofChange amendCostsWrong)

/-- 'sennetlaw07.AmendAmends': WHATEVER THE INPUT: true; the input reads as it did. -/
def amendAmendsSpec : ChangeSpec := { name := "amendAmends", fn := fun _ => fun
  | [d] => { results := [.lit (.bool true)], args := [d] }
  | _ => none }
def amendAmendsRow : OpenClaim := { program := "ytamljcdnphjgaaa", sum := "77f052b6c168da562046e863b4fd2e3a2a7109dd0e6811b68089b74b3692e5d7", func := "sennet/sennetlaw07.AmendAmends", spec := "amendAmends", inPlace := ["slices.overlaps[int]"], unfollowed := true, recurses := true, plainKeys := false, apart := false }
def AmendAmendsSaid : Prop := amendAmendsRow.holds Try.pinned (OpenSpec.ofChange amendAmendsSpec)

/-- ITS FALSE NEIGHBOUR: 'it returns false'. Refute it at one input. -/
def amendAmendsWrong : ChangeSpec := { name := "amendAmends", fn := fun _ => fun
  | [d] => { results := [.lit (.bool false)], args := [d] }
  | _ => none }
def AmendAmendsWrongFalsely : Prop := amendAmendsRow.holds Try.pinned (OpenSpec.ofChange amendAmendsWrong)

/-- 'sennetlaw07.AmendProves': WHATEVER THE INPUT: true; the input reads as it did. -/
def amendProvesSpec : ChangeSpec := { name := "amendProves", fn := fun _ => fun
  | [d] => { results := [.lit (.bool true)], args := [d] }
  | _ => none }
def amendProvesRow : OpenClaim := { program := "ytamljcdnphjgaaa", sum := "77f052b6c168da562046e863b4fd2e3a2a7109dd0e6811b68089b74b3692e5d7", func := "sennet/sennetlaw07.AmendProves", spec := "amendProves", inPlace := ["slices.overlaps[int]"], unfollowed := true, recurses := true, plainKeys := false, apart := false }
def AmendProvesSaid : Prop := amendProvesRow.holds Try.pinned (OpenSpec.ofChange amendProvesSpec)

/-- ITS FALSE NEIGHBOUR: 'it returns false'. Refute it at one input. -/
def amendProvesWrong : ChangeSpec := { name := "amendProves", fn := fun _ => fun
  | [d] => { results := [.lit (.bool false)], args := [d] }
  | _ => none }
def AmendProvesWrongFalsely : Prop := amendProvesRow.holds Try.pinned (OpenSpec.ofChange amendProvesWrong)

/-- 'sennetlaw07.AmendStays': WHATEVER THE INPUT: true; the input reads as it did. -/
def amendStaysSpec : ChangeSpec := { name := "amendStays", fn := fun _ => fun
  | [d] => { results := [.lit (.bool true)], args := [d] }
  | _ => none }
def amendStaysRow : OpenClaim := { program := "ytamljcdnphjgaaa", sum := "77f052b6c168da562046e863b4fd2e3a2a7109dd0e6811b68089b74b3692e5d7", func := "sennet/sennetlaw07.AmendStays", spec := "amendStays", inPlace := ["slices.overlaps[int]"], unfollowed := true, recurses := true, plainKeys := false, apart := false }
def AmendStaysSaid : Prop := amendStaysRow.holds Try.pinned (OpenSpec.ofChange amendStaysSpec)

/-- ITS FALSE NEIGHBOUR: 'it returns false'. Refute it at one input. -/
def amendStaysWrong : ChangeSpec := { name := "amendStays", fn := fun _ => fun
  | [d] => { results := [.lit (.bool false)], args := [d] }
  | _ => none }
def AmendStaysWrongFalsely : Prop := amendStaysRow.holds Try.pinned (OpenSpec.ofChange amendStaysWrong)

/-- 'sennetlaw07.AmendKeeps': WHATEVER THE INPUT: true; the input reads as it did. -/
def amendKeepsSpec : ChangeSpec := { name := "amendKeeps", fn := fun _ => fun
  | [d1, d2] => { results := [.lit (.bool true)], args := [d1, d2] }
  | _ => none }
def amendKeepsRow : OpenClaim := { program := "ytamljcdnphjgaaa", sum := "77f052b6c168da562046e863b4fd2e3a2a7109dd0e6811b68089b74b3692e5d7", func := "sennet/sennetlaw07.AmendKeeps", spec := "amendKeeps", inPlace := ["slices.overlaps[int]"], unfollowed := true, recurses := true, plainKeys := false, apart := false }
def AmendKeepsSaid : Prop := amendKeepsRow.holds Try.pinned (OpenSpec.ofChange amendKeepsSpec)

/-- ITS FALSE NEIGHBOUR: 'it returns false'. Refute it at one input. -/
def amendKeepsWrong : ChangeSpec := { name := "amendKeeps", fn := fun _ => fun
  | [d1, d2] => { results := [.lit (.bool false)], args := [d1, d2] }
  | _ => none }
def AmendKeepsWrongFalsely : Prop := amendKeepsRow.holds Try.pinned (OpenSpec.ofChange amendKeepsWrong)

/-- 'sennetlaw07.AmendRebases': WHATEVER THE INPUT: true; the input reads as it did. -/
def amendRebasesSpec : ChangeSpec := { name := "amendRebases", fn := fun _ => fun
  | [d1, d2, d3] => { results := [.lit (.bool true)], args := [d1, d2, d3] }
  | _ => none }
def amendRebasesRow : OpenClaim := { program := "ytamljcdnphjgaaa", sum := "77f052b6c168da562046e863b4fd2e3a2a7109dd0e6811b68089b74b3692e5d7", func := "sennet/sennetlaw07.AmendRebases", spec := "amendRebases", inPlace := ["slices.overlaps[int]"], unfollowed := true, recurses := true, plainKeys := false, apart := false }
def AmendRebasesSaid : Prop := amendRebasesRow.holds Try.pinned (OpenSpec.ofChange amendRebasesSpec)

/-- ITS FALSE NEIGHBOUR: 'it returns false'. Refute it at one input. -/
def amendRebasesWrong : ChangeSpec := { name := "amendRebases", fn := fun _ => fun
  | [d1, d2, d3] => { results := [.lit (.bool false)], args := [d1, d2, d3] }
  | _ => none }
def AmendRebasesWrongFalsely : Prop := amendRebasesRow.holds Try.pinned (OpenSpec.ofChange amendRebasesWrong)

/-- 'sennetlaw07.AmendWaives': WHATEVER THE INPUT: true; the input reads as it did. -/
def amendWaivesSpec : ChangeSpec := { name := "amendWaives", fn := fun _ => fun
  | [d1, d2] => { results := [.lit (.bool true)], args := [d1, d2] }
  | _ => none }
def amendWaivesRow : OpenClaim := { program := "ytamljcdnphjgaaa", sum := "77f052b6c168da562046e863b4fd2e3a2a7109dd0e6811b68089b74b3692e5d7", func := "sennet/sennetlaw07.AmendWaives", spec := "amendWaives", inPlace := ["slices.overlaps[int]"], unfollowed := true, recurses := true, plainKeys := false, apart := false }
def AmendWaivesSaid : Prop := amendWaivesRow.holds Try.pinned (OpenSpec.ofChange amendWaivesSpec)

/-- ITS FALSE NEIGHBOUR: 'it returns false'. Refute it at one input. -/
def amendWaivesWrong : ChangeSpec := { name := "amendWaives", fn := fun _ => fun
  | [d1, d2] => { results := [.lit (.bool false)], args := [d1, d2] }
  | _ => none }
def AmendWaivesWrongFalsely : Prop := amendWaivesRow.holds Try.pinned (OpenSpec.ofChange amendWaivesWrong)

/-- 'sennetlaw07.AmendPlaces': WHATEVER THE INPUT: true; the input reads as it did. -/
def amendPlacesSpec : ChangeSpec := { name := "amendPlaces", fn := fun _ => fun
  | [d1, d2, d3] => { results := [.lit (.bool true)], args := [d1, d2, d3] }
  | _ => none }
def amendPlacesRow : OpenClaim := { program := "ytamljcdnphjgaaa", sum := "77f052b6c168da562046e863b4fd2e3a2a7109dd0e6811b68089b74b3692e5d7", func := "sennet/sennetlaw07.AmendPlaces", spec := "amendPlaces", inPlace := ["slices.overlaps[int]"], unfollowed := true, recurses := true, plainKeys := false, apart := false }
def AmendPlacesSaid : Prop := amendPlacesRow.holds Try.pinned (OpenSpec.ofChange amendPlacesSpec)

/-- ITS FALSE NEIGHBOUR: 'it returns false'. Refute it at one input. -/
def amendPlacesWrong : ChangeSpec := { name := "amendPlaces", fn := fun _ => fun
  | [d1, d2, d3] => { results := [.lit (.bool false)], args := [d1, d2, d3] }
  | _ => none }
def AmendPlacesWrongFalsely : Prop := amendPlacesRow.holds Try.pinned (OpenSpec.ofChange amendPlacesWrong)

/-- 'sennetlaw07.AmendProofs': WHATEVER THE INPUT: true; the input reads as it did. -/
def amendProofsSpec : ChangeSpec := { name := "amendProofs", fn := fun _ => fun
  | [d1, d2, d3] => { results := [.lit (.bool true)], args := [d1, d2, d3] }
  | _ => none }
def amendProofsRow : OpenClaim := { program := "ytamljcdnphjgaaa", sum := "77f052b6c168da562046e863b4fd2e3a2a7109dd0e6811b68089b74b3692e5d7", func := "sennet/sennetlaw07.AmendProofs", spec := "amendProofs", inPlace := ["slices.overlaps[int]"], unfollowed := true, recurses := true, plainKeys := false, apart := false }
def AmendProofsSaid : Prop := amendProofsRow.holds Try.pinned (OpenSpec.ofChange amendProofsSpec)

/-- ITS FALSE NEIGHBOUR: 'it returns false'. Refute it at one input. -/
def amendProofsWrong : ChangeSpec := { name := "amendProofs", fn := fun _ => fun
  | [d1, d2, d3] => { results := [.lit (.bool false)], args := [d1, d2, d3] }
  | _ => none }
def AmendProofsWrongFalsely : Prop := amendProofsRow.holds Try.pinned (OpenSpec.ofChange amendProofsWrong)

/-- 'sennetlaw07.AmendLeast': WHATEVER THE INPUT: true; the input reads as it did. -/
def amendLeastSpec : ChangeSpec := { name := "amendLeast", fn := fun _ => fun
  | [d1, d2] => { results := [.lit (.bool true)], args := [d1, d2] }
  | _ => none }
def amendLeastRow : OpenClaim := { program := "ytamljcdnphjgaaa", sum := "77f052b6c168da562046e863b4fd2e3a2a7109dd0e6811b68089b74b3692e5d7", func := "sennet/sennetlaw07.AmendLeast", spec := "amendLeast", inPlace := ["slices.overlaps[int]"], unfollowed := true, recurses := true, plainKeys := false, apart := false }
def AmendLeastSaid : Prop := amendLeastRow.holds Try.pinned (OpenSpec.ofChange amendLeastSpec)

/-- ITS FALSE NEIGHBOUR: 'it returns false'. Refute it at one input. -/
def amendLeastWrong : ChangeSpec := { name := "amendLeast", fn := fun _ => fun
  | [d1, d2] => { results := [.lit (.bool false)], args := [d1, d2] }
  | _ => none }
def AmendLeastWrongFalsely : Prop := amendLeastRow.holds Try.pinned (OpenSpec.ofChange amendLeastWrong)

/-- 'sennetlaw07.AmendTrue': WHATEVER THE INPUT: true; the input reads as it did. -/
def amendTrueSpec : ChangeSpec := { name := "amendTrue", fn := fun _ => fun
  | [d1, d2, d3, d4] => { results := [.lit (.bool true)], args := [d1, d2, d3, d4] }
  | _ => none }
def amendTrueRow : OpenClaim := { program := "ytamljcdnphjgaaa", sum := "77f052b6c168da562046e863b4fd2e3a2a7109dd0e6811b68089b74b3692e5d7", func := "sennet/sennetlaw07.AmendTrue", spec := "amendTrue", inPlace := ["slices.overlaps[int]"], unfollowed := true, recurses := true, plainKeys := false, apart := false }
def AmendTrueSaid : Prop := amendTrueRow.holds Try.pinned (OpenSpec.ofChange amendTrueSpec)

/-- ITS FALSE NEIGHBOUR: 'it returns false'. Refute it at one input. -/
def amendTrueWrong : ChangeSpec := { name := "amendTrue", fn := fun _ => fun
  | [d1, d2, d3, d4] => { results := [.lit (.bool false)], args := [d1, d2, d3, d4] }
  | _ => none }
def AmendTrueWrongFalsely : Prop := amendTrueRow.holds Try.pinned (OpenSpec.ofChange amendTrueWrong)

/-- 'sennetlaw07.AmendApplies': WHATEVER THE INPUT: true; the input reads as it did. -/
def amendAppliesSpec : ChangeSpec := { name := "amendApplies", fn := fun _ => fun
  | [d1, d2, d3] => { results := [.lit (.bool true)], args := [d1, d2, d3] }
  | _ => none }
def amendAppliesRow : OpenClaim := { program := "ytamljcdnphjgaaa", sum := "77f052b6c168da562046e863b4fd2e3a2a7109dd0e6811b68089b74b3692e5d7", func := "sennet/sennetlaw07.AmendApplies", spec := "amendApplies", inPlace := ["slices.overlaps[int]"], unfollowed := true, recurses := true, plainKeys := false, apart := false }
def AmendAppliesSaid : Prop := amendAppliesRow.holds Try.pinned (OpenSpec.ofChange amendAppliesSpec)

/-- ITS FALSE NEIGHBOUR: 'it returns false'. Refute it at one input. -/
def amendAppliesWrong : ChangeSpec := { name := "amendApplies", fn := fun _ => fun
  | [d1, d2, d3] => { results := [.lit (.bool false)], args := [d1, d2, d3] }
  | _ => none }
def AmendAppliesWrongFalsely : Prop := amendAppliesRow.holds Try.pinned (OpenSpec.ofChange amendAppliesWrong)

/-- 'sennetlaw07.AmendLeads': WHATEVER THE INPUT: true; the input reads as it did. -/
def amendLeadsSpec : ChangeSpec := { name := "amendLeads", fn := fun _ => fun
  | [d1, d2] => { results := [.lit (.bool true)], args := [d1, d2] }
  | _ => none }
def amendLeadsRow : OpenClaim := { program := "ytamljcdnphjgaaa", sum := "77f052b6c168da562046e863b4fd2e3a2a7109dd0e6811b68089b74b3692e5d7", func := "sennet/sennetlaw07.AmendLeads", spec := "amendLeads", inPlace := ["slices.overlaps[int]"], unfollowed := true, recurses := true, plainKeys := false, apart := false }
def AmendLeadsSaid : Prop := amendLeadsRow.holds Try.pinned (OpenSpec.ofChange amendLeadsSpec)

/-- ITS FALSE NEIGHBOUR: 'it returns false'. Refute it at one input. -/
def amendLeadsWrong : ChangeSpec := { name := "amendLeads", fn := fun _ => fun
  | [d1, d2] => { results := [.lit (.bool false)], args := [d1, d2] }
  | _ => none }
def AmendLeadsWrongFalsely : Prop := amendLeadsRow.holds Try.pinned (OpenSpec.ofChange amendLeadsWrong)

/-- 'sennetlaw07.AmendMemory': WHATEVER THE INPUT: true; the input reads as it did. -/
def amendMemorySpec : ChangeSpec := { name := "amendMemory", fn := fun _ => fun
  | [d1, d2] => { results := [.lit (.bool true)], args := [d1, d2] }
  | _ => none }
def amendMemoryRow : OpenClaim := { program := "ytamljcdnphjgaaa", sum := "77f052b6c168da562046e863b4fd2e3a2a7109dd0e6811b68089b74b3692e5d7", func := "sennet/sennetlaw07.AmendMemory", spec := "amendMemory", inPlace := ["slices.overlaps[int]"], unfollowed := true, recurses := true, plainKeys := false, apart := false }
def AmendMemorySaid : Prop := amendMemoryRow.holds Try.pinned (OpenSpec.ofChange amendMemorySpec)

/-- ITS FALSE NEIGHBOUR: 'it returns false'. Refute it at one input. -/
def amendMemoryWrong : ChangeSpec := { name := "amendMemory", fn := fun _ => fun
  | [d1, d2] => { results := [.lit (.bool false)], args := [d1, d2] }
  | _ => none }
def AmendMemoryWrongFalsely : Prop := amendMemoryRow.holds Try.pinned (OpenSpec.ofChange amendMemoryWrong)

/-- 'sennetlaw07.AmendCounts': WHATEVER THE INPUT: true; the input reads as it did. -/
def amendCountsSpec : ChangeSpec := { name := "amendCounts", fn := fun _ => fun
  | [d] => { results := [.lit (.bool true)], args := [d] }
  | _ => none }
def amendCountsRow : OpenClaim := { program := "ytamljcdnphjgaaa", sum := "77f052b6c168da562046e863b4fd2e3a2a7109dd0e6811b68089b74b3692e5d7", func := "sennet/sennetlaw07.AmendCounts", spec := "amendCounts", inPlace := ["slices.overlaps[int]"], unfollowed := true, recurses := true, plainKeys := false, apart := false }
def AmendCountsSaid : Prop := amendCountsRow.holds Try.pinned (OpenSpec.ofChange amendCountsSpec)

/-- ITS FALSE NEIGHBOUR: 'it returns false'. Refute it at one input. -/
def amendCountsWrong : ChangeSpec := { name := "amendCounts", fn := fun _ => fun
  | [d] => { results := [.lit (.bool false)], args := [d] }
  | _ => none }
def AmendCountsWrongFalsely : Prop := amendCountsRow.holds Try.pinned (OpenSpec.ofChange amendCountsWrong)

/-- 'sennetlaw07.AmendSettles': WHATEVER THE INPUT: true; the input reads as it did. -/
def amendSettlesSpec : ChangeSpec := { name := "amendSettles", fn := fun _ => fun
  | [d] => { results := [.lit (.bool true)], args := [d] }
  | _ => none }
def amendSettlesRow : OpenClaim := { program := "ytamljcdnphjgaaa", sum := "77f052b6c168da562046e863b4fd2e3a2a7109dd0e6811b68089b74b3692e5d7", func := "sennet/sennetlaw07.AmendSettles", spec := "amendSettles", inPlace := ["slices.overlaps[int]"], unfollowed := true, recurses := true, plainKeys := false, apart := false }
def AmendSettlesSaid : Prop := amendSettlesRow.holds Try.pinned (OpenSpec.ofChange amendSettlesSpec)

/-- ITS FALSE NEIGHBOUR: 'it returns false'. Refute it at one input. -/
def amendSettlesWrong : ChangeSpec := { name := "amendSettles", fn := fun _ => fun
  | [d] => { results := [.lit (.bool false)], args := [d] }
  | _ => none }
def AmendSettlesWrongFalsely : Prop := amendSettlesRow.holds Try.pinned (OpenSpec.ofChange amendSettlesWrong)

/-- 'sennetlaw07.AmendShifts': WHATEVER THE INPUT: true; the input reads as it did. -/
def amendShiftsSpec : ChangeSpec := { name := "amendShifts", fn := fun _ => fun
  | [d1, d2] => { results := [.lit (.bool true)], args := [d1, d2] }
  | _ => none }
def amendShiftsRow : OpenClaim := { program := "ytamljcdnphjgaaa", sum := "77f052b6c168da562046e863b4fd2e3a2a7109dd0e6811b68089b74b3692e5d7", func := "sennet/sennetlaw07.AmendShifts", spec := "amendShifts", inPlace := ["slices.overlaps[int]"], unfollowed := true, recurses := true, plainKeys := false, apart := false }
def AmendShiftsSaid : Prop := amendShiftsRow.holds Try.pinned (OpenSpec.ofChange amendShiftsSpec)

/-- ITS FALSE NEIGHBOUR: 'it returns false'. Refute it at one input. -/
def amendShiftsWrong : ChangeSpec := { name := "amendShifts", fn := fun _ => fun
  | [d1, d2] => { results := [.lit (.bool false)], args := [d1, d2] }
  | _ => none }
def AmendShiftsWrongFalsely : Prop := amendShiftsRow.holds Try.pinned (OpenSpec.ofChange amendShiftsWrong)

/-- 'sennetlaw07.AmendPassed': WHATEVER THE INPUT: true; the input reads as it did. -/
def amendPassedSpec : ChangeSpec := { name := "amendPassed", fn := fun _ => fun
  | [d1, d2, d3] => { results := [.lit (.bool true)], args := [d1, d2, d3] }
  | _ => none }
def amendPassedRow : OpenClaim := { program := "ytamljcdnphjgaaa", sum := "77f052b6c168da562046e863b4fd2e3a2a7109dd0e6811b68089b74b3692e5d7", func := "sennet/sennetlaw07.AmendPassed", spec := "amendPassed", inPlace := ["slices.overlaps[int]"], unfollowed := true, recurses := true, plainKeys := false, apart := false }
def AmendPassedSaid : Prop := amendPassedRow.holds Try.pinned (OpenSpec.ofChange amendPassedSpec)

/-- ITS FALSE NEIGHBOUR: 'it returns false'. Refute it at one input. -/
def amendPassedWrong : ChangeSpec := { name := "amendPassed", fn := fun _ => fun
  | [d1, d2, d3] => { results := [.lit (.bool false)], args := [d1, d2, d3] }
  | _ => none }
def AmendPassedWrongFalsely : Prop := amendPassedRow.holds Try.pinned (OpenSpec.ofChange amendPassedWrong)

/- THE SECOND FORM. 'bulk': how many values and letters a reading holds, each counted each time it is reached (what is shared counts as often as it is met; a slice's spare places count too). A statement '..UptoSaid' is the law's where the arguments, and the package variables that the reading takes, are together of bulk at most 1048576: NARROWER than '..Said'. Prove '..Said' where nothing that the law and all that it calls make is longer than what came in: it says more and counts as full. Else prove '..UptoSaid'. A law counts once. -/
mutual
def uptoBulk {H : Type} : DataW H → Nat
  | .lit (.string bytes) => bytes.length + 1
  | .lit _ => 1
  | .nil => 1
  | .ptr d => uptoBulk d + 1
  | .slice elems spare => uptoBulkAll elems + uptoBulkAll spare + 1
  | .agg parts => uptoBulkAll parts + 1
  | .iface _ d => uptoBulk d + 1
  | .map entries => uptoBulkEntries entries + 1
  | .held _ => 1
def uptoBulkAll {H : Type} : List (DataW H) → Nat
  | [] => 0
  | d :: r => uptoBulk d + uptoBulkAll r
def uptoBulkEntries {H : Type} : List (Lit × DataW H) → Nat
  | [] => 0
  | x :: r => uptoBulkEntry x + uptoBulkEntries r
def uptoBulkEntry {H : Type} : Lit × DataW H → Nat
  | (.string bytes, d) => bytes.length + uptoBulk d + 1
  | (_, d) => uptoBulk d + 1
 end
def uptoSmall : (H : Type) → List (DataW H) → Bool := fun _ ds => decide (uptoBulkAll ds ≤ 1048576)
def OpenSpec.upto (s : _root_.Go.ChangeSpec) : _root_.Go.OpenSpec := { _root_.Go.OpenSpec.ofChange s with cond := some uptoSmall }

/-- 'sennetlaw07.AmendChecks', WHERE WHAT IT READS IS OF BULK AT MOST 1048576: true; the input reads as it did. -/
def amendChecksUptoRow : OpenClaim := { program := "ytamljcdnphjgaaa", sum := "77f052b6c168da562046e863b4fd2e3a2a7109dd0e6811b68089b74b3692e5d7", func := "sennet/sennetlaw07.AmendChecks", spec := "amendChecks", inPlace := ["slices.overlaps[int]"], unfollowed := true, recurses := true, plainKeys := false, apart := false, narrowed := true }
def AmendChecksUptoSaid : Prop := amendChecksUptoRow.holds Try.pinned (OpenSpec.upto amendChecksSpec)

/-- 'sennetlaw07.AmendMoves', WHERE WHAT IT READS IS OF BULK AT MOST 1048576: true; the input reads as it did. -/
def amendMovesUptoRow : OpenClaim := { program := "ytamljcdnphjgaaa", sum := "77f052b6c168da562046e863b4fd2e3a2a7109dd0e6811b68089b74b3692e5d7", func := "sennet/sennetlaw07.AmendMoves", spec := "amendMoves", inPlace := ["slices.overlaps[int]"], unfollowed := true, recurses := true, plainKeys := false, apart := false, narrowed := true }
def AmendMovesUptoSaid : Prop := amendMovesUptoRow.holds Try.pinned (OpenSpec.upto amendMovesSpec)

/-- 'sennetlaw07.AmendCosts', WHERE WHAT IT READS IS OF BULK AT MOST 1048576: true; the input reads as it did. -/
def amendCostsUptoRow : OpenClaim := { program := "ytamljcdnphjgaaa", sum := "77f052b6c168da562046e863b4fd2e3a2a7109dd0e6811b68089b74b3692e5d7", func := "sennet/sennetlaw07.AmendCosts", spec := "amendCosts", inPlace := ["slices.overlaps[int]"], unfollowed := true, recurses := true, plainKeys := false, apart := false, narrowed := true }
def AmendCostsUptoSaid : Prop := amendCostsUptoRow.holds Try.pinned (OpenSpec.upto amendCostsSpec)

/-- 'sennetlaw07.AmendAmends', WHERE WHAT IT READS IS OF BULK AT MOST 1048576: true; the input reads as it did. -/
def amendAmendsUptoRow : OpenClaim := { program := "ytamljcdnphjgaaa", sum := "77f052b6c168da562046e863b4fd2e3a2a7109dd0e6811b68089b74b3692e5d7", func := "sennet/sennetlaw07.AmendAmends", spec := "amendAmends", inPlace := ["slices.overlaps[int]"], unfollowed := true, recurses := true, plainKeys := false, apart := false, narrowed := true }
def AmendAmendsUptoSaid : Prop := amendAmendsUptoRow.holds Try.pinned (OpenSpec.upto amendAmendsSpec)

/-- 'sennetlaw07.AmendProves', WHERE WHAT IT READS IS OF BULK AT MOST 1048576: true; the input reads as it did. -/
def amendProvesUptoRow : OpenClaim := { program := "ytamljcdnphjgaaa", sum := "77f052b6c168da562046e863b4fd2e3a2a7109dd0e6811b68089b74b3692e5d7", func := "sennet/sennetlaw07.AmendProves", spec := "amendProves", inPlace := ["slices.overlaps[int]"], unfollowed := true, recurses := true, plainKeys := false, apart := false, narrowed := true }
def AmendProvesUptoSaid : Prop := amendProvesUptoRow.holds Try.pinned (OpenSpec.upto amendProvesSpec)

/-- 'sennetlaw07.AmendStays', WHERE WHAT IT READS IS OF BULK AT MOST 1048576: true; the input reads as it did. -/
def amendStaysUptoRow : OpenClaim := { program := "ytamljcdnphjgaaa", sum := "77f052b6c168da562046e863b4fd2e3a2a7109dd0e6811b68089b74b3692e5d7", func := "sennet/sennetlaw07.AmendStays", spec := "amendStays", inPlace := ["slices.overlaps[int]"], unfollowed := true, recurses := true, plainKeys := false, apart := false, narrowed := true }
def AmendStaysUptoSaid : Prop := amendStaysUptoRow.holds Try.pinned (OpenSpec.upto amendStaysSpec)

/-- 'sennetlaw07.AmendKeeps', WHERE WHAT IT READS IS OF BULK AT MOST 1048576: true; the input reads as it did. -/
def amendKeepsUptoRow : OpenClaim := { program := "ytamljcdnphjgaaa", sum := "77f052b6c168da562046e863b4fd2e3a2a7109dd0e6811b68089b74b3692e5d7", func := "sennet/sennetlaw07.AmendKeeps", spec := "amendKeeps", inPlace := ["slices.overlaps[int]"], unfollowed := true, recurses := true, plainKeys := false, apart := false, narrowed := true }
def AmendKeepsUptoSaid : Prop := amendKeepsUptoRow.holds Try.pinned (OpenSpec.upto amendKeepsSpec)

/-- 'sennetlaw07.AmendRebases', WHERE WHAT IT READS IS OF BULK AT MOST 1048576: true; the input reads as it did. -/
def amendRebasesUptoRow : OpenClaim := { program := "ytamljcdnphjgaaa", sum := "77f052b6c168da562046e863b4fd2e3a2a7109dd0e6811b68089b74b3692e5d7", func := "sennet/sennetlaw07.AmendRebases", spec := "amendRebases", inPlace := ["slices.overlaps[int]"], unfollowed := true, recurses := true, plainKeys := false, apart := false, narrowed := true }
def AmendRebasesUptoSaid : Prop := amendRebasesUptoRow.holds Try.pinned (OpenSpec.upto amendRebasesSpec)

/-- 'sennetlaw07.AmendWaives', WHERE WHAT IT READS IS OF BULK AT MOST 1048576: true; the input reads as it did. -/
def amendWaivesUptoRow : OpenClaim := { program := "ytamljcdnphjgaaa", sum := "77f052b6c168da562046e863b4fd2e3a2a7109dd0e6811b68089b74b3692e5d7", func := "sennet/sennetlaw07.AmendWaives", spec := "amendWaives", inPlace := ["slices.overlaps[int]"], unfollowed := true, recurses := true, plainKeys := false, apart := false, narrowed := true }
def AmendWaivesUptoSaid : Prop := amendWaivesUptoRow.holds Try.pinned (OpenSpec.upto amendWaivesSpec)

/-- 'sennetlaw07.AmendPlaces', WHERE WHAT IT READS IS OF BULK AT MOST 1048576: true; the input reads as it did. -/
def amendPlacesUptoRow : OpenClaim := { program := "ytamljcdnphjgaaa", sum := "77f052b6c168da562046e863b4fd2e3a2a7109dd0e6811b68089b74b3692e5d7", func := "sennet/sennetlaw07.AmendPlaces", spec := "amendPlaces", inPlace := ["slices.overlaps[int]"], unfollowed := true, recurses := true, plainKeys := false, apart := false, narrowed := true }
def AmendPlacesUptoSaid : Prop := amendPlacesUptoRow.holds Try.pinned (OpenSpec.upto amendPlacesSpec)

/-- 'sennetlaw07.AmendProofs', WHERE WHAT IT READS IS OF BULK AT MOST 1048576: true; the input reads as it did. -/
def amendProofsUptoRow : OpenClaim := { program := "ytamljcdnphjgaaa", sum := "77f052b6c168da562046e863b4fd2e3a2a7109dd0e6811b68089b74b3692e5d7", func := "sennet/sennetlaw07.AmendProofs", spec := "amendProofs", inPlace := ["slices.overlaps[int]"], unfollowed := true, recurses := true, plainKeys := false, apart := false, narrowed := true }
def AmendProofsUptoSaid : Prop := amendProofsUptoRow.holds Try.pinned (OpenSpec.upto amendProofsSpec)

/-- 'sennetlaw07.AmendLeast', WHERE WHAT IT READS IS OF BULK AT MOST 1048576: true; the input reads as it did. -/
def amendLeastUptoRow : OpenClaim := { program := "ytamljcdnphjgaaa", sum := "77f052b6c168da562046e863b4fd2e3a2a7109dd0e6811b68089b74b3692e5d7", func := "sennet/sennetlaw07.AmendLeast", spec := "amendLeast", inPlace := ["slices.overlaps[int]"], unfollowed := true, recurses := true, plainKeys := false, apart := false, narrowed := true }
def AmendLeastUptoSaid : Prop := amendLeastUptoRow.holds Try.pinned (OpenSpec.upto amendLeastSpec)

/-- 'sennetlaw07.AmendTrue', WHERE WHAT IT READS IS OF BULK AT MOST 1048576: true; the input reads as it did. -/
def amendTrueUptoRow : OpenClaim := { program := "ytamljcdnphjgaaa", sum := "77f052b6c168da562046e863b4fd2e3a2a7109dd0e6811b68089b74b3692e5d7", func := "sennet/sennetlaw07.AmendTrue", spec := "amendTrue", inPlace := ["slices.overlaps[int]"], unfollowed := true, recurses := true, plainKeys := false, apart := false, narrowed := true }
def AmendTrueUptoSaid : Prop := amendTrueUptoRow.holds Try.pinned (OpenSpec.upto amendTrueSpec)

/-- 'sennetlaw07.AmendApplies', WHERE WHAT IT READS IS OF BULK AT MOST 1048576: true; the input reads as it did. -/
def amendAppliesUptoRow : OpenClaim := { program := "ytamljcdnphjgaaa", sum := "77f052b6c168da562046e863b4fd2e3a2a7109dd0e6811b68089b74b3692e5d7", func := "sennet/sennetlaw07.AmendApplies", spec := "amendApplies", inPlace := ["slices.overlaps[int]"], unfollowed := true, recurses := true, plainKeys := false, apart := false, narrowed := true }
def AmendAppliesUptoSaid : Prop := amendAppliesUptoRow.holds Try.pinned (OpenSpec.upto amendAppliesSpec)

/-- 'sennetlaw07.AmendLeads', WHERE WHAT IT READS IS OF BULK AT MOST 1048576: true; the input reads as it did. -/
def amendLeadsUptoRow : OpenClaim := { program := "ytamljcdnphjgaaa", sum := "77f052b6c168da562046e863b4fd2e3a2a7109dd0e6811b68089b74b3692e5d7", func := "sennet/sennetlaw07.AmendLeads", spec := "amendLeads", inPlace := ["slices.overlaps[int]"], unfollowed := true, recurses := true, plainKeys := false, apart := false, narrowed := true }
def AmendLeadsUptoSaid : Prop := amendLeadsUptoRow.holds Try.pinned (OpenSpec.upto amendLeadsSpec)

/-- 'sennetlaw07.AmendMemory', WHERE WHAT IT READS IS OF BULK AT MOST 1048576: true; the input reads as it did. -/
def amendMemoryUptoRow : OpenClaim := { program := "ytamljcdnphjgaaa", sum := "77f052b6c168da562046e863b4fd2e3a2a7109dd0e6811b68089b74b3692e5d7", func := "sennet/sennetlaw07.AmendMemory", spec := "amendMemory", inPlace := ["slices.overlaps[int]"], unfollowed := true, recurses := true, plainKeys := false, apart := false, narrowed := true }
def AmendMemoryUptoSaid : Prop := amendMemoryUptoRow.holds Try.pinned (OpenSpec.upto amendMemorySpec)

/-- 'sennetlaw07.AmendCounts', WHERE WHAT IT READS IS OF BULK AT MOST 1048576: true; the input reads as it did. -/
def amendCountsUptoRow : OpenClaim := { program := "ytamljcdnphjgaaa", sum := "77f052b6c168da562046e863b4fd2e3a2a7109dd0e6811b68089b74b3692e5d7", func := "sennet/sennetlaw07.AmendCounts", spec := "amendCounts", inPlace := ["slices.overlaps[int]"], unfollowed := true, recurses := true, plainKeys := false, apart := false, narrowed := true }
def AmendCountsUptoSaid : Prop := amendCountsUptoRow.holds Try.pinned (OpenSpec.upto amendCountsSpec)

/-- 'sennetlaw07.AmendSettles', WHERE WHAT IT READS IS OF BULK AT MOST 1048576: true; the input reads as it did. -/
def amendSettlesUptoRow : OpenClaim := { program := "ytamljcdnphjgaaa", sum := "77f052b6c168da562046e863b4fd2e3a2a7109dd0e6811b68089b74b3692e5d7", func := "sennet/sennetlaw07.AmendSettles", spec := "amendSettles", inPlace := ["slices.overlaps[int]"], unfollowed := true, recurses := true, plainKeys := false, apart := false, narrowed := true }
def AmendSettlesUptoSaid : Prop := amendSettlesUptoRow.holds Try.pinned (OpenSpec.upto amendSettlesSpec)

/-- 'sennetlaw07.AmendShifts', WHERE WHAT IT READS IS OF BULK AT MOST 1048576: true; the input reads as it did. -/
def amendShiftsUptoRow : OpenClaim := { program := "ytamljcdnphjgaaa", sum := "77f052b6c168da562046e863b4fd2e3a2a7109dd0e6811b68089b74b3692e5d7", func := "sennet/sennetlaw07.AmendShifts", spec := "amendShifts", inPlace := ["slices.overlaps[int]"], unfollowed := true, recurses := true, plainKeys := false, apart := false, narrowed := true }
def AmendShiftsUptoSaid : Prop := amendShiftsUptoRow.holds Try.pinned (OpenSpec.upto amendShiftsSpec)

/-- 'sennetlaw07.AmendPassed', WHERE WHAT IT READS IS OF BULK AT MOST 1048576: true; the input reads as it did. -/
def amendPassedUptoRow : OpenClaim := { program := "ytamljcdnphjgaaa", sum := "77f052b6c168da562046e863b4fd2e3a2a7109dd0e6811b68089b74b3692e5d7", func := "sennet/sennetlaw07.AmendPassed", spec := "amendPassed", inPlace := ["slices.overlaps[int]"], unfollowed := true, recurses := true, plainKeys := false, apart := false, narrowed := true }
def AmendPassedUptoSaid : Prop := amendPassedUptoRow.holds Try.pinned (OpenSpec.upto amendPassedSpec)

end Rows
end Go.Proofs.Ytamljcdnphjgaaa
