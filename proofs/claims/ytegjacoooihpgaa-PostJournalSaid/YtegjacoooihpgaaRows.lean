/-
  No cell of these rows narrows 'for every input' (looked for: loops, veiled, ifaces, maps, wideKeys, modest, calm, conditions, laid).
  DERIVED. THE GIVEN ROWS OF THIS SEAT. 5 by the template 'for every input the law returns true; each argument reads behind the call as it read before'; 0 by the template 'total and deterministic' (their statements: YtegjacoooihpgaaTotals.lean).
  GIVEN WITH THE SEED: the statements are not yours to turn. If you find one false, say at which input.
  Laid BY PROGRAM, IN A SANDBOX (cutbox-rows.mjs): the forced cells as the released guide's own fill.sh prints them over the translation 507c8fa1672e3c06… (all of the seat's roots in one cut). By AI agents, Wed Nov 11 2026. No macro, syntax, notation, axiom, sorry.
-/
import Derived.Test.YtegjacoooihpgaaChecked
import GoSem.Claim
import GoSem.ClaimJoined
import GoSem.ClaimMapViews
import Derived.JoinedTies
import Derived.KernelRfl
namespace Go.Proofs.Ytegjacoooihpgaa
/- THE CELL 'sum', in the pinned program and in every row, IS THE sha256 OF THE DUMP (.gsa) THAT YtegjacoooihpgaaProg.lean LOADS. Nothing in Lean hashes anything: it is a label: what it is worth is what the hold of that sum in a sandbox is worth. -/
noncomputable def Try.pinned : Pinned := { name := "ytegjacoooihpgaa", sum := "507c8fa1672e3c063cea3f0df775bc7785f6a771a55b97483417d39215eecb0f", checked := Try.checked }
namespace Rows
def none {H : Type} : Left H := { results := [], args := [] }

/-- 'sennetlaw08.PostTorn': WHATEVER THE INPUT: true; the input reads as it did. -/
def postTornSpec : ChangeSpec := { name := "postTorn", fn := fun _ => fun
  | [d1, d2, d3, d4] => { results := [.lit (.bool true)], args := [d1, d2, d3, d4] }
  | _ => none }
def postTornRow : OpenClaim := { program := "ytegjacoooihpgaa", sum := "507c8fa1672e3c063cea3f0df775bc7785f6a771a55b97483417d39215eecb0f", func := "sennet/sennetlaw08.PostTorn", spec := "postTorn", apart := false }
def PostTornSaid : Prop := postTornRow.holds Try.pinned (OpenSpec.ofChange postTornSpec)

/-- ITS FALSE NEIGHBOUR: 'it returns false'. Refute it at one input. -/
def postTornWrong : ChangeSpec := { name := "postTorn", fn := fun _ => fun
  | [d1, d2, d3, d4] => { results := [.lit (.bool false)], args := [d1, d2, d3, d4] }
  | _ => none }
def PostTornWrongFalsely : Prop := postTornRow.holds Try.pinned (OpenSpec.ofChange postTornWrong)

/-- 'sennetlaw08.PostDisk': WHATEVER THE INPUT: true; the input reads as it did. -/
def postDiskSpec : ChangeSpec := { name := "postDisk", fn := fun _ => fun
  | [d1, d2] => { results := [.lit (.bool true)], args := [d1, d2] }
  | _ => none }
def postDiskRow : OpenClaim := { program := "ytegjacoooihpgaa", sum := "507c8fa1672e3c063cea3f0df775bc7785f6a771a55b97483417d39215eecb0f", func := "sennet/sennetlaw08.PostDisk", spec := "postDisk", apart := false }
def PostDiskSaid : Prop := postDiskRow.holds Try.pinned (OpenSpec.ofChange postDiskSpec)

/-- ITS FALSE NEIGHBOUR: 'it returns false'. Refute it at one input. -/
def postDiskWrong : ChangeSpec := { name := "postDisk", fn := fun _ => fun
  | [d1, d2] => { results := [.lit (.bool false)], args := [d1, d2] }
  | _ => none }
def PostDiskWrongFalsely : Prop := postDiskRow.holds Try.pinned (OpenSpec.ofChange postDiskWrong)

/-- 'sennetlaw08.PostRoom': WHATEVER THE INPUT: true; the input reads as it did. -/
def postRoomSpec : ChangeSpec := { name := "postRoom", fn := fun _ => fun
  | [d1, d2] => { results := [.lit (.bool true)], args := [d1, d2] }
  | _ => none }
def postRoomRow : OpenClaim := { program := "ytegjacoooihpgaa", sum := "507c8fa1672e3c063cea3f0df775bc7785f6a771a55b97483417d39215eecb0f", func := "sennet/sennetlaw08.PostRoom", spec := "postRoom", apart := false }
def PostRoomSaid : Prop := postRoomRow.holds Try.pinned (OpenSpec.ofChange postRoomSpec)

/-- ITS FALSE NEIGHBOUR: 'it returns false'. Refute it at one input. -/
def postRoomWrong : ChangeSpec := { name := "postRoom", fn := fun _ => fun
  | [d1, d2] => { results := [.lit (.bool false)], args := [d1, d2] }
  | _ => none }
def PostRoomWrongFalsely : Prop := postRoomRow.holds Try.pinned (OpenSpec.ofChange postRoomWrong)

/-- 'sennetlaw08.PostPrefix': WHATEVER THE INPUT: true; the input reads as it did. -/
def postPrefixSpec : ChangeSpec := { name := "postPrefix", fn := fun _ => fun
  | [d1, d2, d3, d4, d5] => { results := [.lit (.bool true)], args := [d1, d2, d3, d4, d5] }
  | _ => none }
def postPrefixRow : OpenClaim := { program := "ytegjacoooihpgaa", sum := "507c8fa1672e3c063cea3f0df775bc7785f6a771a55b97483417d39215eecb0f", func := "sennet/sennetlaw08.PostPrefix", spec := "postPrefix", apart := false }
def PostPrefixSaid : Prop := postPrefixRow.holds Try.pinned (OpenSpec.ofChange postPrefixSpec)

/-- ITS FALSE NEIGHBOUR: 'it returns false'. Refute it at one input. -/
def postPrefixWrong : ChangeSpec := { name := "postPrefix", fn := fun _ => fun
  | [d1, d2, d3, d4, d5] => { results := [.lit (.bool false)], args := [d1, d2, d3, d4, d5] }
  | _ => none }
def PostPrefixWrongFalsely : Prop := postPrefixRow.holds Try.pinned (OpenSpec.ofChange postPrefixWrong)

/-- 'sennetlaw08.PostJournal': WHATEVER THE INPUT: true; the input reads as it did. -/
def postJournalSpec : ChangeSpec := { name := "postJournal", fn := fun _ => fun
  | [d1, d2] => { results := [.lit (.bool true)], args := [d1, d2] }
  | _ => none }
def postJournalRow : OpenClaim := { program := "ytegjacoooihpgaa", sum := "507c8fa1672e3c063cea3f0df775bc7785f6a771a55b97483417d39215eecb0f", func := "sennet/sennetlaw08.PostJournal", spec := "postJournal", apart := false }
def PostJournalSaid : Prop := postJournalRow.holds Try.pinned (OpenSpec.ofChange postJournalSpec)

/-- ITS FALSE NEIGHBOUR: 'it returns false'. Refute it at one input. -/
def postJournalWrong : ChangeSpec := { name := "postJournal", fn := fun _ => fun
  | [d1, d2] => { results := [.lit (.bool false)], args := [d1, d2] }
  | _ => none }
def PostJournalWrongFalsely : Prop := postJournalRow.holds Try.pinned (OpenSpec.ofChange postJournalWrong)

/- THE SECOND FORM. 'bulk': how many values and letters a reading holds, each counted each time it is reached (what is shared counts as often as it is met; a slice's spare places count too). A statement '..UptoSaid' is the law's where the arguments, and the package variables that the reading takes, are together of bulk at most 1048576: NARROWER than '..Said'. Prove '..Said' where nothing that the law and all that it calls make is longer than what came in: it says more and counts as full. Else prove '..UptoSaid'. A law counts once. -/
mutual
def uptoBulk {H : Type} : DataW H → Nat
  | .lit (.string bytes) => bytes.length + 1
  | .lit _ => 1
  | .nil => 1
  | .ptr d => uptoBulk d + 1
  | .slice elems spare => uptoBulkAll elems + uptoBulkAll spare + 1
  | .agg parts => uptoBulkAll parts + 1
  | .iface _ d => uptoBulk d + 1
  | .map entries => uptoBulkEntries entries + 1
  | .held _ => 1
def uptoBulkAll {H : Type} : List (DataW H) → Nat
  | [] => 0
  | d :: r => uptoBulk d + uptoBulkAll r
def uptoBulkEntries {H : Type} : List (Lit × DataW H) → Nat
  | [] => 0
  | x :: r => uptoBulkEntry x + uptoBulkEntries r
def uptoBulkEntry {H : Type} : Lit × DataW H → Nat
  | (.string bytes, d) => bytes.length + uptoBulk d + 1
  | (_, d) => uptoBulk d + 1
 end
def uptoSmall : (H : Type) → List (DataW H) → Bool := fun _ ds => decide (uptoBulkAll ds ≤ 1048576)
def OpenSpec.upto (s : _root_.Go.ChangeSpec) : _root_.Go.OpenSpec := { _root_.Go.OpenSpec.ofChange s with cond := some uptoSmall }

/-- 'sennetlaw08.PostTorn', WHERE WHAT IT READS IS OF BULK AT MOST 1048576: true; the input reads as it did. -/
def postTornUptoRow : OpenClaim := { program := "ytegjacoooihpgaa", sum := "507c8fa1672e3c063cea3f0df775bc7785f6a771a55b97483417d39215eecb0f", func := "sennet/sennetlaw08.PostTorn", spec := "postTorn", apart := false, narrowed := true }
def PostTornUptoSaid : Prop := postTornUptoRow.holds Try.pinned (OpenSpec.upto postTornSpec)

/-- 'sennetlaw08.PostDisk', WHERE WHAT IT READS IS OF BULK AT MOST 1048576: true; the input reads as it did. -/
def postDiskUptoRow : OpenClaim := { program := "ytegjacoooihpgaa", sum := "507c8fa1672e3c063cea3f0df775bc7785f6a771a55b97483417d39215eecb0f", func := "sennet/sennetlaw08.PostDisk", spec := "postDisk", apart := false, narrowed := true }
def PostDiskUptoSaid : Prop := postDiskUptoRow.holds Try.pinned (OpenSpec.upto postDiskSpec)

/-- 'sennetlaw08.PostRoom', WHERE WHAT IT READS IS OF BULK AT MOST 1048576: true; the input reads as it did. -/
def postRoomUptoRow : OpenClaim := { program := "ytegjacoooihpgaa", sum := "507c8fa1672e3c063cea3f0df775bc7785f6a771a55b97483417d39215eecb0f", func := "sennet/sennetlaw08.PostRoom", spec := "postRoom", apart := false, narrowed := true }
def PostRoomUptoSaid : Prop := postRoomUptoRow.holds Try.pinned (OpenSpec.upto postRoomSpec)

/-- 'sennetlaw08.PostPrefix', WHERE WHAT IT READS IS OF BULK AT MOST 1048576: true; the input reads as it did. -/
def postPrefixUptoRow : OpenClaim := { program := "ytegjacoooihpgaa", sum := "507c8fa1672e3c063cea3f0df775bc7785f6a771a55b97483417d39215eecb0f", func := "sennet/sennetlaw08.PostPrefix", spec := "postPrefix", apart := false, narrowed := true }
def PostPrefixUptoSaid : Prop := postPrefixUptoRow.holds Try.pinned (OpenSpec.upto postPrefixSpec)

/-- 'sennetlaw08.PostJournal', WHERE WHAT IT READS IS OF BULK AT MOST 1048576: true; the input reads as it did. -/
def postJournalUptoRow : OpenClaim := { program := "ytegjacoooihpgaa", sum := "507c8fa1672e3c063cea3f0df775bc7785f6a771a55b97483417d39215eecb0f", func := "sennet/sennetlaw08.PostJournal", spec := "postJournal", apart := false, narrowed := true }
def PostJournalUptoSaid : Prop := postJournalUptoRow.holds Try.pinned (OpenSpec.upto postJournalSpec)

end Rows
end Go.Proofs.Ytegjacoooihpgaa
