/-
  No cell of these rows narrows 'for every input' (looked for: loops, veiled, ifaces, maps, wideKeys, modest, calm, conditions, laid).
  DERIVED. THE GIVEN ROWS OF THIS SEAT. 11 by the template 'for every input the law returns true; each argument reads behind the call as it read before'; 0 by the template 'total and deterministic' (their statements: YtpnfgnddlfkfaaaTotals.lean).
  GIVEN WITH THE SEED: the statements are not yours to turn. If you find one false, say at which input.
  Laid BY PROGRAM, IN A SANDBOX (cutbox-rows.mjs): the forced cells as the released guide's own fill.sh prints them over the translation 1105ba6e88fb3462… (all of the seat's roots in one cut). By AI agents, Wed Nov 11 2026. No macro, syntax, notation, axiom, sorry.
-/
import Derived.Test.YtpnfgnddlfkfaaaChecked
import GoSem.Claim
import GoSem.ClaimJoined
import GoSem.ClaimMapViews
import Derived.JoinedTies
import Derived.KernelRfl
namespace Go.Proofs.Ytpnfgnddlfkfaaa
/- THE CELL 'sum', in the pinned program and in every row, IS THE sha256 OF THE DUMP (.gsa) THAT YtpnfgnddlfkfaaaProg.lean LOADS. Nothing in Lean hashes anything: it is a label: what it is worth is what the hold of that sum in a sandbox is worth. -/
noncomputable def Try.pinned : Pinned := { name := "ytpnfgnddlfkfaaa", sum := "1105ba6e88fb3462b81d821c871b49bfdb9f6c37f04210ce7bbbc5052b18e98c", checked := Try.checked }
namespace Rows
def none {H : Type} : Left H := { results := [], args := [] }

/-- 'treeringlaw10.ChunkOnce': WHATEVER THE INPUT: true; the input reads as it did. -/
def chunkOnceSpec : ChangeSpec := { name := "chunkOnce", fn := fun _ => fun
  | [d1, d2] => { results := [.lit (.bool true)], args := [d1, d2] }
  | _ => none }
def chunkOnceRow : OpenClaim := { program := "ytpnfgnddlfkfaaa", sum := "1105ba6e88fb3462b81d821c871b49bfdb9f6c37f04210ce7bbbc5052b18e98c", func := "treering/treeringlaw10.ChunkOnce", spec := "chunkOnce", apart := false }
def ChunkOnceSaid : Prop := chunkOnceRow.holds Try.pinned (OpenSpec.ofChange chunkOnceSpec)

/-- ITS FALSE NEIGHBOUR: 'it returns false'. Refute it at one input. -/
def chunkOnceWrong : ChangeSpec := { name := "chunkOnce", fn := fun _ => fun
  | [d1, d2] => { results := [.lit (.bool false)], args := [d1, d2] }
  | _ => none }
def ChunkOnceWrongFalsely : Prop := chunkOnceRow.holds Try.pinned (OpenSpec.ofChange chunkOnceWrong)

/-- 'treeringlaw10.ChunkRecords': WHATEVER THE INPUT: true; the input reads as it did. -/
def chunkRecordsSpec : ChangeSpec := { name := "chunkRecords", fn := fun _ => fun
  | [d1, d2, d3] => { results := [.lit (.bool true)], args := [d1, d2, d3] }
  | _ => none }
def chunkRecordsRow : OpenClaim := { program := "ytpnfgnddlfkfaaa", sum := "1105ba6e88fb3462b81d821c871b49bfdb9f6c37f04210ce7bbbc5052b18e98c", func := "treering/treeringlaw10.ChunkRecords", spec := "chunkRecords", apart := false }
def ChunkRecordsSaid : Prop := chunkRecordsRow.holds Try.pinned (OpenSpec.ofChange chunkRecordsSpec)

/-- ITS FALSE NEIGHBOUR: 'it returns false'. Refute it at one input. -/
def chunkRecordsWrong : ChangeSpec := { name := "chunkRecords", fn := fun _ => fun
  | [d1, d2, d3] => { results := [.lit (.bool false)], args := [d1, d2, d3] }
  | _ => none }
def ChunkRecordsWrongFalsely : Prop := chunkRecordsRow.holds Try.pinned (OpenSpec.ofChange chunkRecordsWrong)

/-- 'treeringlaw12.BodyRanges': WHATEVER THE INPUT: true; the input reads as it did. -/
def bodyRangesSpec : ChangeSpec := { name := "bodyRanges", fn := fun _ => fun
  | [d1, d2, d3] => { results := [.lit (.bool true)], args := [d1, d2, d3] }
  | _ => none }
def bodyRangesRow : OpenClaim := { program := "ytpnfgnddlfkfaaa", sum := "1105ba6e88fb3462b81d821c871b49bfdb9f6c37f04210ce7bbbc5052b18e98c", func := "treering/treeringlaw12.BodyRanges", spec := "bodyRanges", unfollowed := true, recurses := true, apart := false }
def BodyRangesSaid : Prop := bodyRangesRow.holds Try.pinned (OpenSpec.ofChange bodyRangesSpec)

/-- ITS FALSE NEIGHBOUR: 'it returns false'. Refute it at one input. -/
def bodyRangesWrong : ChangeSpec := { name := "bodyRanges", fn := fun _ => fun
  | [d1, d2, d3] => { results := [.lit (.bool false)], args := [d1, d2, d3] }
  | _ => none }
def BodyRangesWrongFalsely : Prop := bodyRangesRow.holds Try.pinned (OpenSpec.ofChange bodyRangesWrong)

/-- 'treeringlaw12.BodyReads': WHATEVER THE INPUT: true; the input reads as it did. -/
def bodyReadsSpec : ChangeSpec := { name := "bodyReads", fn := fun _ => fun
  | [d1, d2, d3] => { results := [.lit (.bool true)], args := [d1, d2, d3] }
  | _ => none }
def bodyReadsRow : OpenClaim := { program := "ytpnfgnddlfkfaaa", sum := "1105ba6e88fb3462b81d821c871b49bfdb9f6c37f04210ce7bbbc5052b18e98c", func := "treering/treeringlaw12.BodyReads", spec := "bodyReads", unfollowed := true, recurses := true, apart := false }
def BodyReadsSaid : Prop := bodyReadsRow.holds Try.pinned (OpenSpec.ofChange bodyReadsSpec)

/-- ITS FALSE NEIGHBOUR: 'it returns false'. Refute it at one input. -/
def bodyReadsWrong : ChangeSpec := { name := "bodyReads", fn := fun _ => fun
  | [d1, d2, d3] => { results := [.lit (.bool false)], args := [d1, d2, d3] }
  | _ => none }
def BodyReadsWrongFalsely : Prop := bodyReadsRow.holds Try.pinned (OpenSpec.ofChange bodyReadsWrong)

/-- 'treeringlaw12.BodyKnown': WHATEVER THE INPUT: true; the input reads as it did. -/
def bodyKnownSpec : ChangeSpec := { name := "bodyKnown", fn := fun _ => fun
  | [] => { results := [.lit (.bool true)], args := [] }
  | _ => none }
def bodyKnownRow : OpenClaim := { program := "ytpnfgnddlfkfaaa", sum := "1105ba6e88fb3462b81d821c871b49bfdb9f6c37f04210ce7bbbc5052b18e98c", func := "treering/treeringlaw12.BodyKnown", spec := "bodyKnown", unfollowed := true, recurses := true, apart := false }
def BodyKnownSaid : Prop := bodyKnownRow.holds Try.pinned (OpenSpec.ofChange bodyKnownSpec)

/-- ITS FALSE NEIGHBOUR: 'it returns false'. Refute it at one input. -/
def bodyKnownWrong : ChangeSpec := { name := "bodyKnown", fn := fun _ => fun
  | [] => { results := [.lit (.bool false)], args := [] }
  | _ => none }
def BodyKnownWrongFalsely : Prop := bodyKnownRow.holds Try.pinned (OpenSpec.ofChange bodyKnownWrong)

/-- 'treeringlaw12.BodyCovers': WHATEVER THE INPUT: true; the input reads as it did. -/
def bodyCoversSpec : ChangeSpec := { name := "bodyCovers", fn := fun _ => fun
  | [d1, d2, d3] => { results := [.lit (.bool true)], args := [d1, d2, d3] }
  | _ => none }
def bodyCoversRow : OpenClaim := { program := "ytpnfgnddlfkfaaa", sum := "1105ba6e88fb3462b81d821c871b49bfdb9f6c37f04210ce7bbbc5052b18e98c", func := "treering/treeringlaw12.BodyCovers", spec := "bodyCovers", unfollowed := true, recurses := true, apart := false }
def BodyCoversSaid : Prop := bodyCoversRow.holds Try.pinned (OpenSpec.ofChange bodyCoversSpec)

/-- ITS FALSE NEIGHBOUR: 'it returns false'. Refute it at one input. -/
def bodyCoversWrong : ChangeSpec := { name := "bodyCovers", fn := fun _ => fun
  | [d1, d2, d3] => { results := [.lit (.bool false)], args := [d1, d2, d3] }
  | _ => none }
def BodyCoversWrongFalsely : Prop := bodyCoversRow.holds Try.pinned (OpenSpec.ofChange bodyCoversWrong)

/-- 'treeringlaw12.BodyTwice': WHATEVER THE INPUT: true; the input reads as it did. -/
def bodyTwiceSpec : ChangeSpec := { name := "bodyTwice", fn := fun _ => fun
  | [d1, d2, d3] => { results := [.lit (.bool true)], args := [d1, d2, d3] }
  | _ => none }
def bodyTwiceRow : OpenClaim := { program := "ytpnfgnddlfkfaaa", sum := "1105ba6e88fb3462b81d821c871b49bfdb9f6c37f04210ce7bbbc5052b18e98c", func := "treering/treeringlaw12.BodyTwice", spec := "bodyTwice", unfollowed := true, recurses := true, apart := false }
def BodyTwiceSaid : Prop := bodyTwiceRow.holds Try.pinned (OpenSpec.ofChange bodyTwiceSpec)

/-- ITS FALSE NEIGHBOUR: 'it returns false'. Refute it at one input. -/
def bodyTwiceWrong : ChangeSpec := { name := "bodyTwice", fn := fun _ => fun
  | [d1, d2, d3] => { results := [.lit (.bool false)], args := [d1, d2, d3] }
  | _ => none }
def BodyTwiceWrongFalsely : Prop := bodyTwiceRow.holds Try.pinned (OpenSpec.ofChange bodyTwiceWrong)

/-- 'treeringlaw10.ChunkPlays': WHATEVER THE INPUT: true; the input reads as it did. -/
def chunkPlaysSpec : ChangeSpec := { name := "chunkPlays", fn := fun _ => fun
  | [d] => { results := [.lit (.bool true)], args := [d] }
  | _ => none }
def chunkPlaysRow : OpenClaim := { program := "ytpnfgnddlfkfaaa", sum := "1105ba6e88fb3462b81d821c871b49bfdb9f6c37f04210ce7bbbc5052b18e98c", func := "treering/treeringlaw10.ChunkPlays", spec := "chunkPlays", unfollowed := true, recurses := true, apart := false }
def ChunkPlaysSaid : Prop := chunkPlaysRow.holds Try.pinned (OpenSpec.ofChange chunkPlaysSpec)

/-- ITS FALSE NEIGHBOUR: 'it returns false'. Refute it at one input. -/
def chunkPlaysWrong : ChangeSpec := { name := "chunkPlays", fn := fun _ => fun
  | [d] => { results := [.lit (.bool false)], args := [d] }
  | _ => none }
def ChunkPlaysWrongFalsely : Prop := chunkPlaysRow.holds Try.pinned (OpenSpec.ofChange chunkPlaysWrong)

/-- 'treeringlaw10.ChunkDrops': WHATEVER THE INPUT: true; the input reads as it did. -/
def chunkDropsSpec : ChangeSpec := { name := "chunkDrops", fn := fun _ => fun
  | [d1, d2] => { results := [.lit (.bool true)], args := [d1, d2] }
  | _ => none }
def chunkDropsRow : OpenClaim := { program := "ytpnfgnddlfkfaaa", sum := "1105ba6e88fb3462b81d821c871b49bfdb9f6c37f04210ce7bbbc5052b18e98c", func := "treering/treeringlaw10.ChunkDrops", spec := "chunkDrops", unfollowed := true, recurses := true, apart := false }
def ChunkDropsSaid : Prop := chunkDropsRow.holds Try.pinned (OpenSpec.ofChange chunkDropsSpec)

/-- ITS FALSE NEIGHBOUR: 'it returns false'. Refute it at one input. -/
def chunkDropsWrong : ChangeSpec := { name := "chunkDrops", fn := fun _ => fun
  | [d1, d2] => { results := [.lit (.bool false)], args := [d1, d2] }
  | _ => none }
def ChunkDropsWrongFalsely : Prop := chunkDropsRow.holds Try.pinned (OpenSpec.ofChange chunkDropsWrong)

/-- 'treeringlaw10.ChunkSets': WHATEVER THE INPUT: true; the input reads as it did. -/
def chunkSetsSpec : ChangeSpec := { name := "chunkSets", fn := fun _ => fun
  | [d1, d2] => { results := [.lit (.bool true)], args := [d1, d2] }
  | _ => none }
def chunkSetsRow : OpenClaim := { program := "ytpnfgnddlfkfaaa", sum := "1105ba6e88fb3462b81d821c871b49bfdb9f6c37f04210ce7bbbc5052b18e98c", func := "treering/treeringlaw10.ChunkSets", spec := "chunkSets", unfollowed := true, recurses := true, apart := false }
def ChunkSetsSaid : Prop := chunkSetsRow.holds Try.pinned (OpenSpec.ofChange chunkSetsSpec)

/-- ITS FALSE NEIGHBOUR: 'it returns false'. Refute it at one input. -/
def chunkSetsWrong : ChangeSpec := { name := "chunkSets", fn := fun _ => fun
  | [d1, d2] => { results := [.lit (.bool false)], args := [d1, d2] }
  | _ => none }
def ChunkSetsWrongFalsely : Prop := chunkSetsRow.holds Try.pinned (OpenSpec.ofChange chunkSetsWrong)

/-- 'treeringlaw12.BodyWrites': WHATEVER THE INPUT: true; the input reads as it did. -/
def bodyWritesSpec : ChangeSpec := { name := "bodyWrites", fn := fun _ => fun
  | [d1, d2, d3] => { results := [.lit (.bool true)], args := [d1, d2, d3] }
  | _ => none }
def bodyWritesRow : OpenClaim := { program := "ytpnfgnddlfkfaaa", sum := "1105ba6e88fb3462b81d821c871b49bfdb9f6c37f04210ce7bbbc5052b18e98c", func := "treering/treeringlaw12.BodyWrites", spec := "bodyWrites", unfollowed := true, recurses := true, apart := false }
def BodyWritesSaid : Prop := bodyWritesRow.holds Try.pinned (OpenSpec.ofChange bodyWritesSpec)

/-- ITS FALSE NEIGHBOUR: 'it returns false'. Refute it at one input. -/
def bodyWritesWrong : ChangeSpec := { name := "bodyWrites", fn := fun _ => fun
  | [d1, d2, d3] => { results := [.lit (.bool false)], args := [d1, d2, d3] }
  | _ => none }
def BodyWritesWrongFalsely : Prop := bodyWritesRow.holds Try.pinned (OpenSpec.ofChange bodyWritesWrong)

/- THE SECOND FORM. 'bulk': how many values and letters a reading holds, each counted each time it is reached (what is shared counts as often as it is met; a slice's spare places count too). A statement '..UptoSaid' is the law's where the arguments, and the package variables that the reading takes, are together of bulk at most 1048576: NARROWER than '..Said'. Prove '..Said' where nothing that the law and all that it calls make is longer than what came in: it says more and counts as full. Else prove '..UptoSaid'. A law counts once. -/
mutual
def uptoBulk {H : Type} : DataW H → Nat
  | .lit (.string bytes) => bytes.length + 1
  | .lit _ => 1
  | .nil => 1
  | .ptr d => uptoBulk d + 1
  | .slice elems spare => uptoBulkAll elems + uptoBulkAll spare + 1
  | .agg parts => uptoBulkAll parts + 1
  | .iface _ d => uptoBulk d + 1
  | .map entries => uptoBulkEntries entries + 1
  | .held _ => 1
def uptoBulkAll {H : Type} : List (DataW H) → Nat
  | [] => 0
  | d :: r => uptoBulk d + uptoBulkAll r
def uptoBulkEntries {H : Type} : List (Lit × DataW H) → Nat
  | [] => 0
  | x :: r => uptoBulkEntry x + uptoBulkEntries r
def uptoBulkEntry {H : Type} : Lit × DataW H → Nat
  | (.string bytes, d) => bytes.length + uptoBulk d + 1
  | (_, d) => uptoBulk d + 1
 end
def uptoSmall : (H : Type) → List (DataW H) → Bool := fun _ ds => decide (uptoBulkAll ds ≤ 1048576)
def OpenSpec.upto (s : _root_.Go.ChangeSpec) : _root_.Go.OpenSpec := { _root_.Go.OpenSpec.ofChange s with cond := some uptoSmall }

/-- 'treeringlaw10.ChunkOnce', WHERE WHAT IT READS IS OF BULK AT MOST 1048576: true; the input reads as it did. -/
def chunkOnceUptoRow : OpenClaim := { program := "ytpnfgnddlfkfaaa", sum := "1105ba6e88fb3462b81d821c871b49bfdb9f6c37f04210ce7bbbc5052b18e98c", func := "treering/treeringlaw10.ChunkOnce", spec := "chunkOnce", apart := false, narrowed := true }
def ChunkOnceUptoSaid : Prop := chunkOnceUptoRow.holds Try.pinned (OpenSpec.upto chunkOnceSpec)

/-- 'treeringlaw10.ChunkRecords', WHERE WHAT IT READS IS OF BULK AT MOST 1048576: true; the input reads as it did. -/
def chunkRecordsUptoRow : OpenClaim := { program := "ytpnfgnddlfkfaaa", sum := "1105ba6e88fb3462b81d821c871b49bfdb9f6c37f04210ce7bbbc5052b18e98c", func := "treering/treeringlaw10.ChunkRecords", spec := "chunkRecords", apart := false, narrowed := true }
def ChunkRecordsUptoSaid : Prop := chunkRecordsUptoRow.holds Try.pinned (OpenSpec.upto chunkRecordsSpec)

/-- 'treeringlaw12.BodyRanges', WHERE WHAT IT READS IS OF BULK AT MOST 1048576: true; the input reads as it did. -/
def bodyRangesUptoRow : OpenClaim := { program := "ytpnfgnddlfkfaaa", sum := "1105ba6e88fb3462b81d821c871b49bfdb9f6c37f04210ce7bbbc5052b18e98c", func := "treering/treeringlaw12.BodyRanges", spec := "bodyRanges", unfollowed := true, recurses := true, apart := false, narrowed := true }
def BodyRangesUptoSaid : Prop := bodyRangesUptoRow.holds Try.pinned (OpenSpec.upto bodyRangesSpec)

/-- 'treeringlaw12.BodyReads', WHERE WHAT IT READS IS OF BULK AT MOST 1048576: true; the input reads as it did. -/
def bodyReadsUptoRow : OpenClaim := { program := "ytpnfgnddlfkfaaa", sum := "1105ba6e88fb3462b81d821c871b49bfdb9f6c37f04210ce7bbbc5052b18e98c", func := "treering/treeringlaw12.BodyReads", spec := "bodyReads", unfollowed := true, recurses := true, apart := false, narrowed := true }
def BodyReadsUptoSaid : Prop := bodyReadsUptoRow.holds Try.pinned (OpenSpec.upto bodyReadsSpec)

/-- 'treeringlaw12.BodyKnown', WHERE WHAT IT READS IS OF BULK AT MOST 1048576: true; the input reads as it did. -/
def bodyKnownUptoRow : OpenClaim := { program := "ytpnfgnddlfkfaaa", sum := "1105ba6e88fb3462b81d821c871b49bfdb9f6c37f04210ce7bbbc5052b18e98c", func := "treering/treeringlaw12.BodyKnown", spec := "bodyKnown", unfollowed := true, recurses := true, apart := false, narrowed := true }
def BodyKnownUptoSaid : Prop := bodyKnownUptoRow.holds Try.pinned (OpenSpec.upto bodyKnownSpec)

/-- 'treeringlaw12.BodyCovers', WHERE WHAT IT READS IS OF BULK AT MOST 1048576: true; the input reads as it did. -/
def bodyCoversUptoRow : OpenClaim := { program := "ytpnfgnddlfkfaaa", sum := "1105ba6e88fb3462b81d821c871b49bfdb9f6c37f04210ce7bbbc5052b18e98c", func := "treering/treeringlaw12.BodyCovers", spec := "bodyCovers", unfollowed := true, recurses := true, apart := false, narrowed := true }
def BodyCoversUptoSaid : Prop := bodyCoversUptoRow.holds Try.pinned (OpenSpec.upto bodyCoversSpec)

/-- 'treeringlaw12.BodyTwice', WHERE WHAT IT READS IS OF BULK AT MOST 1048576: true; the input reads as it did. -/
def bodyTwiceUptoRow : OpenClaim := { program := "ytpnfgnddlfkfaaa", sum := "1105ba6e88fb3462b81d821c871b49bfdb9f6c37f04210ce7bbbc5052b18e98c", func := "treering/treeringlaw12.BodyTwice", spec := "bodyTwice", unfollowed := true, recurses := true, apart := false, narrowed := true }
def BodyTwiceUptoSaid : Prop := bodyTwiceUptoRow.holds Try.pinned (OpenSpec.upto bodyTwiceSpec)

/-- 'treeringlaw10.ChunkPlays', WHERE WHAT IT READS IS OF BULK AT MOST 1048576: true; the input reads as it did. -/
def chunkPlaysUptoRow : OpenClaim := { program := "ytpnfgnddlfkfaaa", sum := "1105ba6e88fb3462b81d821c871b49bfdb9f6c37f04210ce7bbbc5052b18e98c", func := "treering/treeringlaw10.ChunkPlays", spec := "chunkPlays", unfollowed := true, recurses := true, apart := false, narrowed := true }
def ChunkPlaysUptoSaid : Prop := chunkPlaysUptoRow.holds Try.pinned (OpenSpec.upto chunkPlaysSpec)

/-- 'treeringlaw10.ChunkDrops', WHERE WHAT IT READS IS OF BULK AT MOST 1048576: true; the input reads as it did. -/
def chunkDropsUptoRow : OpenClaim := { program := "ytpnfgnddlfkfaaa", sum := "1105ba6e88fb3462b81d821c871b49bfdb9f6c37f04210ce7bbbc5052b18e98c", func := "treering/treeringlaw10.ChunkDrops", spec := "chunkDrops", unfollowed := true, recurses := true, apart := false, narrowed := true }
def ChunkDropsUptoSaid : Prop := chunkDropsUptoRow.holds Try.pinned (OpenSpec.upto chunkDropsSpec)

/-- 'treeringlaw10.ChunkSets', WHERE WHAT IT READS IS OF BULK AT MOST 1048576: true; the input reads as it did. -/
def chunkSetsUptoRow : OpenClaim := { program := "ytpnfgnddlfkfaaa", sum := "1105ba6e88fb3462b81d821c871b49bfdb9f6c37f04210ce7bbbc5052b18e98c", func := "treering/treeringlaw10.ChunkSets", spec := "chunkSets", unfollowed := true, recurses := true, apart := false, narrowed := true }
def ChunkSetsUptoSaid : Prop := chunkSetsUptoRow.holds Try.pinned (OpenSpec.upto chunkSetsSpec)

/-- 'treeringlaw12.BodyWrites', WHERE WHAT IT READS IS OF BULK AT MOST 1048576: true; the input reads as it did. -/
def bodyWritesUptoRow : OpenClaim := { program := "ytpnfgnddlfkfaaa", sum := "1105ba6e88fb3462b81d821c871b49bfdb9f6c37f04210ce7bbbc5052b18e98c", func := "treering/treeringlaw12.BodyWrites", spec := "bodyWrites", unfollowed := true, recurses := true, apart := false, narrowed := true }
def BodyWritesUptoSaid : Prop := bodyWritesUptoRow.holds Try.pinned (OpenSpec.upto bodyWritesSpec)

end Rows
end Go.Proofs.Ytpnfgnddlfkfaaa
