/-
  No cell of these rows narrows 'for every input' (looked for: loops, veiled, ifaces, maps, wideKeys, modest, calm, conditions, laid).
  DERIVED. THE GIVEN ROWS OF THIS SEAT. 12 by the template 'for every input the law returns true; each argument reads behind the call as it read before'; 0 by the template 'total and deterministic' (their statements: YtbhhjphgbdaanaaTotals.lean).
  GIVEN WITH THE SEED: the statements are not yours to turn. If you find one false, say at which input.
  Laid BY PROGRAM, IN A SANDBOX (cutbox-rows.mjs): the forced cells as the released guide's own fill.sh prints them over the translation f36b0fff097c6f6c… (all of the seat's roots in one cut). By AI agents, Wed Nov 11 2026. No macro, syntax, notation, axiom, sorry.
-/
import Derived.Test.YtbhhjphgbdaanaaChecked
import GoSem.Claim
import GoSem.ClaimJoined
import GoSem.ClaimMapViews
import Derived.JoinedTies
import Derived.KernelRfl
namespace Go.Proofs.Ytbhhjphgbdaanaa
/- THE CELL 'sum', in the pinned program and in every row, IS THE sha256 OF THE DUMP (.gsa) THAT YtbhhjphgbdaanaaProg.lean LOADS. Nothing in Lean hashes anything: it is a label: what it is worth is what the hold of that sum in a sandbox is worth. -/
noncomputable def Try.pinned : Pinned := { name := "ytbhhjphgbdaanaa", sum := "f36b0fff097c6f6c49fc5415879e99ca79fa17a6ad0bcf785fe81d7adbd2da2b", checked := Try.checked }
namespace Rows
def none {H : Type} : Left H := { results := [], args := [] }

/-- 'treeringlaw5.SuperTurns': WHATEVER THE INPUT: true; the input reads as it did. -/
def superTurnsSpec : ChangeSpec := { name := "superTurns", fn := fun _ => fun
  | [d1, d2] => { results := [.lit (.bool true)], args := [d1, d2] }
  | _ => none }
def superTurnsRow : OpenClaim := { program := "ytbhhjphgbdaanaa", sum := "f36b0fff097c6f6c49fc5415879e99ca79fa17a6ad0bcf785fe81d7adbd2da2b", func := "treering/treeringlaw5.SuperTurns", spec := "superTurns", unfollowed := true, recurses := true, apart := false }
def SuperTurnsSaid : Prop := superTurnsRow.holds Try.pinned (OpenSpec.ofChange superTurnsSpec)

/-- ITS FALSE NEIGHBOUR: 'it returns false'. Refute it at one input. -/
def superTurnsWrong : ChangeSpec := { name := "superTurns", fn := fun _ => fun
  | [d1, d2] => { results := [.lit (.bool false)], args := [d1, d2] }
  | _ => none }
def SuperTurnsWrongFalsely : Prop := superTurnsRow.holds Try.pinned (OpenSpec.ofChange superTurnsWrong)

/-- 'treeringlaw5.SuperKnown': WHATEVER THE INPUT: true; the input reads as it did. -/
def superKnownSpec : ChangeSpec := { name := "superKnown", fn := fun _ => fun
  | [] => { results := [.lit (.bool true)], args := [] }
  | _ => none }
def superKnownRow : OpenClaim := { program := "ytbhhjphgbdaanaa", sum := "f36b0fff097c6f6c49fc5415879e99ca79fa17a6ad0bcf785fe81d7adbd2da2b", func := "treering/treeringlaw5.SuperKnown", spec := "superKnown", unfollowed := true, recurses := true, apart := false }
def SuperKnownSaid : Prop := superKnownRow.holds Try.pinned (OpenSpec.ofChange superKnownSpec)

/-- ITS FALSE NEIGHBOUR: 'it returns false'. Refute it at one input. -/
def superKnownWrong : ChangeSpec := { name := "superKnown", fn := fun _ => fun
  | [] => { results := [.lit (.bool false)], args := [] }
  | _ => none }
def SuperKnownWrongFalsely : Prop := superKnownRow.holds Try.pinned (OpenSpec.ofChange superKnownWrong)

/-- 'treeringlaw5.SuperSees': WHATEVER THE INPUT: true; the input reads as it did. -/
def superSeesSpec : ChangeSpec := { name := "superSees", fn := fun _ => fun
  | [d1, d2, d3] => { results := [.lit (.bool true)], args := [d1, d2, d3] }
  | _ => none }
def superSeesRow : OpenClaim := { program := "ytbhhjphgbdaanaa", sum := "f36b0fff097c6f6c49fc5415879e99ca79fa17a6ad0bcf785fe81d7adbd2da2b", func := "treering/treeringlaw5.SuperSees", spec := "superSees", unfollowed := true, recurses := true, apart := false }
def SuperSeesSaid : Prop := superSeesRow.holds Try.pinned (OpenSpec.ofChange superSeesSpec)

/-- ITS FALSE NEIGHBOUR: 'it returns false'. Refute it at one input. -/
def superSeesWrong : ChangeSpec := { name := "superSees", fn := fun _ => fun
  | [d1, d2, d3] => { results := [.lit (.bool false)], args := [d1, d2, d3] }
  | _ => none }
def SuperSeesWrongFalsely : Prop := superSeesRow.holds Try.pinned (OpenSpec.ofChange superSeesWrong)

/-- 'treeringlaw5.SuperApart': WHATEVER THE INPUT: true; the input reads as it did. -/
def superApartSpec : ChangeSpec := { name := "superApart", fn := fun _ => fun
  | [d1, d2] => { results := [.lit (.bool true)], args := [d1, d2] }
  | _ => none }
def superApartRow : OpenClaim := { program := "ytbhhjphgbdaanaa", sum := "f36b0fff097c6f6c49fc5415879e99ca79fa17a6ad0bcf785fe81d7adbd2da2b", func := "treering/treeringlaw5.SuperApart", spec := "superApart", unfollowed := true, recurses := true, apart := false }
def SuperApartSaid : Prop := superApartRow.holds Try.pinned (OpenSpec.ofChange superApartSpec)

/-- ITS FALSE NEIGHBOUR: 'it returns false'. Refute it at one input. -/
def superApartWrong : ChangeSpec := { name := "superApart", fn := fun _ => fun
  | [d1, d2] => { results := [.lit (.bool false)], args := [d1, d2] }
  | _ => none }
def SuperApartWrongFalsely : Prop := superApartRow.holds Try.pinned (OpenSpec.ofChange superApartWrong)

/-- 'treeringlaw5.SuperBest': WHATEVER THE INPUT: true; the input reads as it did. -/
def superBestSpec : ChangeSpec := { name := "superBest", fn := fun _ => fun
  | [d1, d2, d3] => { results := [.lit (.bool true)], args := [d1, d2, d3] }
  | _ => none }
def superBestRow : OpenClaim := { program := "ytbhhjphgbdaanaa", sum := "f36b0fff097c6f6c49fc5415879e99ca79fa17a6ad0bcf785fe81d7adbd2da2b", func := "treering/treeringlaw5.SuperBest", spec := "superBest", unfollowed := true, recurses := true, apart := false }
def SuperBestSaid : Prop := superBestRow.holds Try.pinned (OpenSpec.ofChange superBestSpec)

/-- ITS FALSE NEIGHBOUR: 'it returns false'. Refute it at one input. -/
def superBestWrong : ChangeSpec := { name := "superBest", fn := fun _ => fun
  | [d1, d2, d3] => { results := [.lit (.bool false)], args := [d1, d2, d3] }
  | _ => none }
def SuperBestWrongFalsely : Prop := superBestRow.holds Try.pinned (OpenSpec.ofChange superBestWrong)

/-- 'treeringlaw4.DiskFlushed': WHATEVER THE INPUT: true; the input reads as it did. -/
def diskFlushedSpec : ChangeSpec := { name := "diskFlushed", fn := fun _ => fun
  | [d1, d2, d3] => { results := [.lit (.bool true)], args := [d1, d2, d3] }
  | _ => none }
def diskFlushedRow : OpenClaim := { program := "ytbhhjphgbdaanaa", sum := "f36b0fff097c6f6c49fc5415879e99ca79fa17a6ad0bcf785fe81d7adbd2da2b", func := "treering/treeringlaw4.DiskFlushed", spec := "diskFlushed", unfollowed := true, recurses := true, apart := false }
def DiskFlushedSaid : Prop := diskFlushedRow.holds Try.pinned (OpenSpec.ofChange diskFlushedSpec)

/-- ITS FALSE NEIGHBOUR: 'it returns false'. Refute it at one input. -/
def diskFlushedWrong : ChangeSpec := { name := "diskFlushed", fn := fun _ => fun
  | [d1, d2, d3] => { results := [.lit (.bool false)], args := [d1, d2, d3] }
  | _ => none }
def DiskFlushedWrongFalsely : Prop := diskFlushedRow.holds Try.pinned (OpenSpec.ofChange diskFlushedWrong)

/-- 'treeringlaw4.DiskTears': WHATEVER THE INPUT: true; the input reads as it did. -/
def diskTearsSpec : ChangeSpec := { name := "diskTears", fn := fun _ => fun
  | [d1, d2, d3] => { results := [.lit (.bool true)], args := [d1, d2, d3] }
  | _ => none }
def diskTearsRow : OpenClaim := { program := "ytbhhjphgbdaanaa", sum := "f36b0fff097c6f6c49fc5415879e99ca79fa17a6ad0bcf785fe81d7adbd2da2b", func := "treering/treeringlaw4.DiskTears", spec := "diskTears", unfollowed := true, recurses := true, apart := false }
def DiskTearsSaid : Prop := diskTearsRow.holds Try.pinned (OpenSpec.ofChange diskTearsSpec)

/-- ITS FALSE NEIGHBOUR: 'it returns false'. Refute it at one input. -/
def diskTearsWrong : ChangeSpec := { name := "diskTears", fn := fun _ => fun
  | [d1, d2, d3] => { results := [.lit (.bool false)], args := [d1, d2, d3] }
  | _ => none }
def DiskTearsWrongFalsely : Prop := diskTearsRow.holds Try.pinned (OpenSpec.ofChange diskTearsWrong)

/-- 'treeringlaw4.DiskHands': WHATEVER THE INPUT: true; the input reads as it did. -/
def diskHandsSpec : ChangeSpec := { name := "diskHands", fn := fun _ => fun
  | [d1, d2] => { results := [.lit (.bool true)], args := [d1, d2] }
  | _ => none }
def diskHandsRow : OpenClaim := { program := "ytbhhjphgbdaanaa", sum := "f36b0fff097c6f6c49fc5415879e99ca79fa17a6ad0bcf785fe81d7adbd2da2b", func := "treering/treeringlaw4.DiskHands", spec := "diskHands", unfollowed := true, recurses := true, apart := false }
def DiskHandsSaid : Prop := diskHandsRow.holds Try.pinned (OpenSpec.ofChange diskHandsSpec)

/-- ITS FALSE NEIGHBOUR: 'it returns false'. Refute it at one input. -/
def diskHandsWrong : ChangeSpec := { name := "diskHands", fn := fun _ => fun
  | [d1, d2] => { results := [.lit (.bool false)], args := [d1, d2] }
  | _ => none }
def DiskHandsWrongFalsely : Prop := diskHandsRow.holds Try.pinned (OpenSpec.ofChange diskHandsWrong)

/-- 'treeringlaw4.DiskFuses': WHATEVER THE INPUT: true; the input reads as it did. -/
def diskFusesSpec : ChangeSpec := { name := "diskFuses", fn := fun _ => fun
  | [d1, d2] => { results := [.lit (.bool true)], args := [d1, d2] }
  | _ => none }
def diskFusesRow : OpenClaim := { program := "ytbhhjphgbdaanaa", sum := "f36b0fff097c6f6c49fc5415879e99ca79fa17a6ad0bcf785fe81d7adbd2da2b", func := "treering/treeringlaw4.DiskFuses", spec := "diskFuses", unfollowed := true, recurses := true, apart := false }
def DiskFusesSaid : Prop := diskFusesRow.holds Try.pinned (OpenSpec.ofChange diskFusesSpec)

/-- ITS FALSE NEIGHBOUR: 'it returns false'. Refute it at one input. -/
def diskFusesWrong : ChangeSpec := { name := "diskFuses", fn := fun _ => fun
  | [d1, d2] => { results := [.lit (.bool false)], args := [d1, d2] }
  | _ => none }
def DiskFusesWrongFalsely : Prop := diskFusesRow.holds Try.pinned (OpenSpec.ofChange diskFusesWrong)

/-- 'treeringlaw4.DiskSpoils': WHATEVER THE INPUT: true; the input reads as it did. -/
def diskSpoilsSpec : ChangeSpec := { name := "diskSpoils", fn := fun _ => fun
  | [d1, d2, d3] => { results := [.lit (.bool true)], args := [d1, d2, d3] }
  | _ => none }
def diskSpoilsRow : OpenClaim := { program := "ytbhhjphgbdaanaa", sum := "f36b0fff097c6f6c49fc5415879e99ca79fa17a6ad0bcf785fe81d7adbd2da2b", func := "treering/treeringlaw4.DiskSpoils", spec := "diskSpoils", unfollowed := true, recurses := true, apart := false }
def DiskSpoilsSaid : Prop := diskSpoilsRow.holds Try.pinned (OpenSpec.ofChange diskSpoilsSpec)

/-- ITS FALSE NEIGHBOUR: 'it returns false'. Refute it at one input. -/
def diskSpoilsWrong : ChangeSpec := { name := "diskSpoils", fn := fun _ => fun
  | [d1, d2, d3] => { results := [.lit (.bool false)], args := [d1, d2, d3] }
  | _ => none }
def DiskSpoilsWrongFalsely : Prop := diskSpoilsRow.holds Try.pinned (OpenSpec.ofChange diskSpoilsWrong)

/-- 'treeringlaw4.DiskKnown': WHATEVER THE INPUT: true; the input reads as it did. -/
def diskKnownSpec : ChangeSpec := { name := "diskKnown", fn := fun _ => fun
  | [] => { results := [.lit (.bool true)], args := [] }
  | _ => none }
def diskKnownRow : OpenClaim := { program := "ytbhhjphgbdaanaa", sum := "f36b0fff097c6f6c49fc5415879e99ca79fa17a6ad0bcf785fe81d7adbd2da2b", func := "treering/treeringlaw4.DiskKnown", spec := "diskKnown", unfollowed := true, recurses := true, apart := false }
def DiskKnownSaid : Prop := diskKnownRow.holds Try.pinned (OpenSpec.ofChange diskKnownSpec)

/-- ITS FALSE NEIGHBOUR: 'it returns false'. Refute it at one input. -/
def diskKnownWrong : ChangeSpec := { name := "diskKnown", fn := fun _ => fun
  | [] => { results := [.lit (.bool false)], args := [] }
  | _ => none }
def DiskKnownWrongFalsely : Prop := diskKnownRow.holds Try.pinned (OpenSpec.ofChange diskKnownWrong)

/-- 'treeringlaw4.DiskPlays': WHATEVER THE INPUT: true; the input reads as it did. -/
def diskPlaysSpec : ChangeSpec := { name := "diskPlays", fn := fun _ => fun
  | [d1, d2, d3] => { results := [.lit (.bool true)], args := [d1, d2, d3] }
  | _ => none }
def diskPlaysRow : OpenClaim := { program := "ytbhhjphgbdaanaa", sum := "f36b0fff097c6f6c49fc5415879e99ca79fa17a6ad0bcf785fe81d7adbd2da2b", func := "treering/treeringlaw4.DiskPlays", spec := "diskPlays", unfollowed := true, recurses := true, apart := false }
def DiskPlaysSaid : Prop := diskPlaysRow.holds Try.pinned (OpenSpec.ofChange diskPlaysSpec)

/-- ITS FALSE NEIGHBOUR: 'it returns false'. Refute it at one input. -/
def diskPlaysWrong : ChangeSpec := { name := "diskPlays", fn := fun _ => fun
  | [d1, d2, d3] => { results := [.lit (.bool false)], args := [d1, d2, d3] }
  | _ => none }
def DiskPlaysWrongFalsely : Prop := diskPlaysRow.holds Try.pinned (OpenSpec.ofChange diskPlaysWrong)

/- THE SECOND FORM. 'bulk': how many values and letters a reading holds, each counted each time it is reached (what is shared counts as often as it is met; a slice's spare places count too). A statement '..UptoSaid' is the law's where the arguments, and the package variables that the reading takes, are together of bulk at most 1048576: NARROWER than '..Said'. Prove '..Said' where nothing that the law and all that it calls make is longer than what came in: it says more and counts as full. Else prove '..UptoSaid'. A law counts once. -/
mutual
def uptoBulk {H : Type} : DataW H → Nat
  | .lit (.string bytes) => bytes.length + 1
  | .lit _ => 1
  | .nil => 1
  | .ptr d => uptoBulk d + 1
  | .slice elems spare => uptoBulkAll elems + uptoBulkAll spare + 1
  | .agg parts => uptoBulkAll parts + 1
  | .iface _ d => uptoBulk d + 1
  | .map entries => uptoBulkEntries entries + 1
  | .held _ => 1
def uptoBulkAll {H : Type} : List (DataW H) → Nat
  | [] => 0
  | d :: r => uptoBulk d + uptoBulkAll r
def uptoBulkEntries {H : Type} : List (Lit × DataW H) → Nat
  | [] => 0
  | x :: r => uptoBulkEntry x + uptoBulkEntries r
def uptoBulkEntry {H : Type} : Lit × DataW H → Nat
  | (.string bytes, d) => bytes.length + uptoBulk d + 1
  | (_, d) => uptoBulk d + 1
 end
def uptoSmall : (H : Type) → List (DataW H) → Bool := fun _ ds => decide (uptoBulkAll ds ≤ 1048576)
def OpenSpec.upto (s : _root_.Go.ChangeSpec) : _root_.Go.OpenSpec := { _root_.Go.OpenSpec.ofChange s with cond := some uptoSmall }

/-- 'treeringlaw5.SuperTurns', WHERE WHAT IT READS IS OF BULK AT MOST 1048576: true; the input reads as it did. -/
def superTurnsUptoRow : OpenClaim := { program := "ytbhhjphgbdaanaa", sum := "f36b0fff097c6f6c49fc5415879e99ca79fa17a6ad0bcf785fe81d7adbd2da2b", func := "treering/treeringlaw5.SuperTurns", spec := "superTurns", unfollowed := true, recurses := true, apart := false, narrowed := true }
def SuperTurnsUptoSaid : Prop := superTurnsUptoRow.holds Try.pinned (OpenSpec.upto superTurnsSpec)

/-- 'treeringlaw5.SuperKnown', WHERE WHAT IT READS IS OF BULK AT MOST 1048576: true; the input reads as it did. -/
def superKnownUptoRow : OpenClaim := { program := "ytbhhjphgbdaanaa", sum := "f36b0fff097c6f6c49fc5415879e99ca79fa17a6ad0bcf785fe81d7adbd2da2b", func := "treering/treeringlaw5.SuperKnown", spec := "superKnown", unfollowed := true, recurses := true, apart := false, narrowed := true }
def SuperKnownUptoSaid : Prop := superKnownUptoRow.holds Try.pinned (OpenSpec.upto superKnownSpec)

/-- 'treeringlaw5.SuperSees', WHERE WHAT IT READS IS OF BULK AT MOST 1048576: true; the input reads as it did. -/
def superSeesUptoRow : OpenClaim := { program := "ytbhhjphgbdaanaa", sum := "f36b0fff097c6f6c49fc5415879e99ca79fa17a6ad0bcf785fe81d7adbd2da2b", func := "treering/treeringlaw5.SuperSees", spec := "superSees", unfollowed := true, recurses := true, apart := false, narrowed := true }
def SuperSeesUptoSaid : Prop := superSeesUptoRow.holds Try.pinned (OpenSpec.upto superSeesSpec)

/-- 'treeringlaw5.SuperApart', WHERE WHAT IT READS IS OF BULK AT MOST 1048576: true; the input reads as it did. -/
def superApartUptoRow : OpenClaim := { program := "ytbhhjphgbdaanaa", sum := "f36b0fff097c6f6c49fc5415879e99ca79fa17a6ad0bcf785fe81d7adbd2da2b", func := "treering/treeringlaw5.SuperApart", spec := "superApart", unfollowed := true, recurses := true, apart := false, narrowed := true }
def SuperApartUptoSaid : Prop := superApartUptoRow.holds Try.pinned (OpenSpec.upto superApartSpec)

/-- 'treeringlaw5.SuperBest', WHERE WHAT IT READS IS OF BULK AT MOST 1048576: true; the input reads as it did. -/
def superBestUptoRow : OpenClaim := { program := "ytbhhjphgbdaanaa", sum := "f36b0fff097c6f6c49fc5415879e99ca79fa17a6ad0bcf785fe81d7adbd2da2b", func := "treering/treeringlaw5.SuperBest", spec := "superBest", unfollowed := true, recurses := true, apart := false, narrowed := true }
def SuperBestUptoSaid : Prop := superBestUptoRow.holds Try.pinned (OpenSpec.upto superBestSpec)

/-- 'treeringlaw4.DiskFlushed', WHERE WHAT IT READS IS OF BULK AT MOST 1048576: true; the input reads as it did. -/
def diskFlushedUptoRow : OpenClaim := { program := "ytbhhjphgbdaanaa", sum := "f36b0fff097c6f6c49fc5415879e99ca79fa17a6ad0bcf785fe81d7adbd2da2b", func := "treering/treeringlaw4.DiskFlushed", spec := "diskFlushed", unfollowed := true, recurses := true, apart := false, narrowed := true }
def DiskFlushedUptoSaid : Prop := diskFlushedUptoRow.holds Try.pinned (OpenSpec.upto diskFlushedSpec)

/-- 'treeringlaw4.DiskTears', WHERE WHAT IT READS IS OF BULK AT MOST 1048576: true; the input reads as it did. -/
def diskTearsUptoRow : OpenClaim := { program := "ytbhhjphgbdaanaa", sum := "f36b0fff097c6f6c49fc5415879e99ca79fa17a6ad0bcf785fe81d7adbd2da2b", func := "treering/treeringlaw4.DiskTears", spec := "diskTears", unfollowed := true, recurses := true, apart := false, narrowed := true }
def DiskTearsUptoSaid : Prop := diskTearsUptoRow.holds Try.pinned (OpenSpec.upto diskTearsSpec)

/-- 'treeringlaw4.DiskHands', WHERE WHAT IT READS IS OF BULK AT MOST 1048576: true; the input reads as it did. -/
def diskHandsUptoRow : OpenClaim := { program := "ytbhhjphgbdaanaa", sum := "f36b0fff097c6f6c49fc5415879e99ca79fa17a6ad0bcf785fe81d7adbd2da2b", func := "treering/treeringlaw4.DiskHands", spec := "diskHands", unfollowed := true, recurses := true, apart := false, narrowed := true }
def DiskHandsUptoSaid : Prop := diskHandsUptoRow.holds Try.pinned (OpenSpec.upto diskHandsSpec)

/-- 'treeringlaw4.DiskFuses', WHERE WHAT IT READS IS OF BULK AT MOST 1048576: true; the input reads as it did. -/
def diskFusesUptoRow : OpenClaim := { program := "ytbhhjphgbdaanaa", sum := "f36b0fff097c6f6c49fc5415879e99ca79fa17a6ad0bcf785fe81d7adbd2da2b", func := "treering/treeringlaw4.DiskFuses", spec := "diskFuses", unfollowed := true, recurses := true, apart := false, narrowed := true }
def DiskFusesUptoSaid : Prop := diskFusesUptoRow.holds Try.pinned (OpenSpec.upto diskFusesSpec)

/-- 'treeringlaw4.DiskSpoils', WHERE WHAT IT READS IS OF BULK AT MOST 1048576: true; the input reads as it did. -/
def diskSpoilsUptoRow : OpenClaim := { program := "ytbhhjphgbdaanaa", sum := "f36b0fff097c6f6c49fc5415879e99ca79fa17a6ad0bcf785fe81d7adbd2da2b", func := "treering/treeringlaw4.DiskSpoils", spec := "diskSpoils", unfollowed := true, recurses := true, apart := false, narrowed := true }
def DiskSpoilsUptoSaid : Prop := diskSpoilsUptoRow.holds Try.pinned (OpenSpec.upto diskSpoilsSpec)

/-- 'treeringlaw4.DiskKnown', WHERE WHAT IT READS IS OF BULK AT MOST 1048576: true; the input reads as it did. -/
def diskKnownUptoRow : OpenClaim := { program := "ytbhhjphgbdaanaa", sum := "f36b0fff097c6f6c49fc5415879e99ca79fa17a6ad0bcf785fe81d7adbd2da2b", func := "treering/treeringlaw4.DiskKnown", spec := "diskKnown", unfollowed := true, recurses := true, apart := false, narrowed := true }
def DiskKnownUptoSaid : Prop := diskKnownUptoRow.holds Try.pinned (OpenSpec.upto diskKnownSpec)

/-- 'treeringlaw4.DiskPlays', WHERE WHAT IT READS IS OF BULK AT MOST 1048576: true; the input reads as it did. -/
def diskPlaysUptoRow : OpenClaim := { program := "ytbhhjphgbdaanaa", sum := "f36b0fff097c6f6c49fc5415879e99ca79fa17a6ad0bcf785fe81d7adbd2da2b", func := "treering/treeringlaw4.DiskPlays", spec := "diskPlays", unfollowed := true, recurses := true, apart := false, narrowed := true }
def DiskPlaysUptoSaid : Prop := diskPlaysUptoRow.holds Try.pinned (OpenSpec.upto diskPlaysSpec)

end Rows
end Go.Proofs.Ytbhhjphgbdaanaa
